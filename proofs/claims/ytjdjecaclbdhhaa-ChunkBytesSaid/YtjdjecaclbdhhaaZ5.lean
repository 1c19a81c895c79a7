/-
  The texts Yg, B0, Cm, Ce, Ya, Yc, Yb, Cr, Cn, Cc, Cd, Cf, Cg, Cs, Ch, Ci of this seat, one behind the other.
-/
import Derived.Test.YtjdjecaclbdhhaaZ4
import Derived.RangeFuncBox
import Derived.RangeFuncNested
import Derived.RangeFuncBound
import Derived.RangeFuncCalls
import Derived.RangeFuncLeaves
import Derived.Shelf.Abstract
import Derived.Shelf.RegionOpen
import Derived.WalkKit
import Derived.OwnWalkIn
import Derived.TacticsInMore
import Derived.LoopNIn
import Derived.LoopIn
import Derived.Maps.AppendAt
import Derived.Test.YtjdjecaclbdhhaaProg
import Derived.Test.YtjdjecaclbdhhaaRows
import Derived.KernelRfl

section
namespace Go.Proofs.Ytjdjecaclbdhhaa.Yq
open Go Go.Proofs Go.RowKit Go.Shelf
attribute [local go_sem] Oper.semAt_some

/-- What a round keeps: what lay below n₀, and the two boxes. -/
def KpC (n₀ Bs Bn : Nat) (W W' : World) : Prop := Below n₀ W W' ∧ W'.heap[Bs]? = W.heap[Bs]? ∧ W'.heap[Bn]? = W.heap[Bn]?
theorem KpC.refl (n₀ Bs Bn : Nat) (W : World) : KpC n₀ Bs Bn W W := ⟨Below.refl _ _, rfl, rfl⟩
theorem KpC.trans {n₀ Bs Bn : Nat} {A B C : World} (h : KpC n₀ Bs Bn A B) (k : KpC n₀ Bs Bn B C) : KpC n₀ Bs Bn A C := ⟨h.1.trans k.1, k.2.1.trans h.2.1, k.2.2.trans h.2.2⟩
theorem KpC.drew {n₀ Bs Bn : Nat} {A B : World} (h : KpC n₀ Bs Bn A B) : KpC n₀ Bs Bn A B.drew := ⟨h.1.drew, h.2.1, h.2.2⟩
theorem KpC.cellS {n₀ Bs Bn : Nat} {A B : World} (h : KpC n₀ Bs Bn A B) : B.cell? ⟨Bs, 0, none⟩ = A.cell? ⟨Bs, 0, none⟩ := by simp only [World.cell?, h.2.1]
theorem KpC.cellN {n₀ Bs Bn : Nat} {A B : World} (h : KpC n₀ Bs Bn A B) : B.cell? ⟨Bn, 0, none⟩ = A.cell? ⟨Bn, 0, none⟩ := by simp only [World.cell?, h.2.2]
theorem fin_take {K k : Nat} (h : k < K) : (List.finRange K).take (k + 1) = (List.finRange K).take k ++ [⟨k, h⟩] := by
  rw [List.take_succ_eq_append_getElem (by simpa using h)]
  simp

set_option maxRecDepth 100000 in
set_option maxHeartbeats 2000000 in
/-- The closure of slices.Chunk over a slice of 5 * K bytes, five at a time. -/
theorem chunk1_in (F : Fence) (n : Nat) (h52 : F.fn 52) (hro : F.round = none) (hn : 1 ≤ n) (l Bs Bn n₀ b K cap : Nat) (hK : K ≤ 5) (hcap : 5 * K ≤ cap) (J Jx : List (Fin K) → World → Prop)
    (hY : ∀ pre x W, J pre W → pre.length < K → YieldAt F (n - 1) Try.prog l #[.slice (some ⟨b, 5 * x.val, none⟩) 5 5] W fun e W' =>
      (e = .returned (.bool true) ∧ J (pre ++ [x]) W' ∧ KpC n₀ Bs Bn W W') ∨ (e = .returned (.bool false) ∧ Jx (pre ++ [x]) W'))
    (W : World) (hBs1 : W.cell? ⟨Bs, 0, none⟩ = some (.slice (some ⟨b, 0, none⟩) (5 * K) cap)) (hBn1 : W.cell? ⟨Bn, 0, none⟩ = some (.int .i64 5)) (hJa : AbidesFrom W.heap.size J) (h0 : J [] W) :
    CallsIn F n Try.prog 52 #[.func (.yield l) #[] #[], .pointer (some ⟨Bs, 0, none⟩), .pointer (some ⟨Bn, 0, none⟩)] W fun e W' => (∃ v, e = .returned v) ∧
      ((∃ ys, ys = List.finRange K ∧ J ys W') ∨ (∃ pre, (∃ k, k ≤ K ∧ pre = (List.finRange K).take k) ∧ Jx pre W')) := by
  refine callsIn_of_wp Try.func52 rfl h52 ?_ hro
  simp only [Try.ntmps52, List.size_toArray, List.length_cons, List.length_nil, Nat.reduceAdd, Nat.reduceSub, Array.replicate_succ, Array.replicate_zero, List.push_toArray, List.append_toArray, List.nil_append, List.cons_append]
  gi_wp2
  gi_loopw [4] (fun i wr => ∃ k : Nat, k ≤ K ∧ i = .int .i64 ((5 * k : Nat) : Int) ∧ J ((List.finRange K).take k) wr ∧ KpC n₀ Bs Bn W wr)
    (fun i _ => 5 * K - (intOf i).toNat)
  case atStart => exact ⟨0, Nat.zero_le _, rfl, h0, KpC.refl _ _ _ _⟩
  case round =>
    obtain ⟨k, hk, rfl, hJs, hnx⟩ := hrel
    have hs1 : wr.cell? ⟨Bs, 0, none⟩ = some (.slice (some ⟨b, 0, none⟩) (5 * K) cap) := hnx.cellS.trans hBs1
    have hn1 : wr.cell? ⟨Bn, 0, none⟩ = some (.int .i64 5) := hnx.cellN.trans hBn1
    by_cases hlt : k < K
    · have hJd : J ((List.finRange K).take k) wr.drew := hJa _ _ _ none hJs ⟨rfl, rfl, rfl, Nat.le_refl _, fun _ _ _ => rfl⟩ (fun r e => by cases e)
      obtain ⟨fn, tmps, assign, body, hy, hR⟩ := hY _ ⟨k, hlt⟩ wr.drew hJd (by simp; omega)
      have hlt5 : 5 * k < 5 * K := by omega
      have hmin : (5 : Int) ≤ ((5 * K - 5 * k : Nat) : Int) := by omega
      have hJn : (List.finRange K).take k ++ [⟨k, hlt⟩] = (List.finRange K).take (k + 1) := (fin_take hlt).symm
      rw [hJn] at hR
      gi_wp2_with fail
      gi_region
      all_goals (
        gi_wp2
        refine hR.mono ?_
        rintro e W3 (⟨rfl, hJ3, hk3⟩ | ⟨rfl, hJx3⟩)
        · have hn3 : W3.cell? ⟨Bn, 0, none⟩ = some (.int .i64 5) := hk3.cellN.trans hn1
          gi_wp2
          go_roundw
          case rel => exact ⟨k + 1, by omega, by simp; omega, hJ3, (hnx.drew).trans hk3⟩
          case measure => simp [intOf]; omega
        · gi_wp2
          refine bodyPost_ret (results_none rfl _ _ _) rfl ?_
          exact ⟨⟨_, rfl⟩, .inr ⟨_, ⟨k + 1, by omega, rfl⟩, hJx3⟩⟩)
    · obtain rfl : k = K := by omega
      gi_wp2
      go_end0
      exact ⟨⟨_, rfl⟩, .inl ⟨_, rfl, by rw [List.take_of_length_le (by simp)] at hJs; exact hJs⟩⟩
set_option maxHeartbeats 1000000 in
/-- slices.Chunk(s, 5): its arguments are boxed; the function value captures the boxes. -/
theorem chunk_in (F : Fence) (n : Nat) (h40 : F.fn 40) (hro : F.round = none) (a : Option Addr) (len cap : Nat) (w : World) :
    CallsIn F n Try.prog 40 #[.slice a len cap, .int .i64 5] w fun e w' => e = .returned (.func (.func 52) #[] #[.pointer (some ⟨w.heap.size, 0, none⟩), .pointer (some ⟨w.heap.size + 1, 0, none⟩)]) ∧ w' = (w.alloc (.cells #[.slice a len cap] 65)).alloc (.cells #[.int .i64 5] 3) := by
  refine callsIn_of_wp Try.func40 rfl h40 ?_ hro
  simp only [Try.ntmps40, List.size_toArray, List.length_cons, List.length_nil, Nat.reduceAdd, Nat.reduceSub, Array.replicate_succ, Array.replicate_zero, List.push_toArray, List.append_toArray, List.nil_append, List.cons_append]
  gi_wp2
  go_ret
  exact ⟨rfl, rfl⟩
/-- slices.Chunk(s, 5) hands back a value that gives 0, .., K - 1 (which five bytes). -/
theorem chunk_stops (F : Fence) (n : Nat) (h52 : F.fn 52) (hro : F.round = none) (hn : 1 ≤ n) (Bs Bn n₀ b K cap : Nat) (hK : K ≤ 5) (hcap : 5 * K ≤ cap) (w : World) (hBs : Bs < w.heap.size) (hBn : Bn < w.heap.size)
    (hs1 : w.cell? ⟨Bs, 0, none⟩ = some (.slice (some ⟨b, 0, none⟩) (5 * K) cap)) (hn1 : w.cell? ⟨Bn, 0, none⟩ = some (.int .i64 5)) :
    SeqStopsK F n Try.prog 52 #[.pointer (some ⟨Bs, 0, none⟩), .pointer (some ⟨Bn, 0, none⟩)] (fun x : Fin K => #[Value.slice (some ⟨b, 5 * x.val, none⟩) 5 5]) (KpC n₀ Bs Bn) (fun ys => ys = List.finRange K) (fun pre => ∃ k, k ≤ K ∧ pre = (List.finRange K).take k) K w := fun l J Jx W hW hJ _ hY h0 =>
  chunk1_in F n h52 hro hn l Bs Bn n₀ b K cap hK hcap J Jx hY W ((hW.cell (p := ⟨Bs, 0, none⟩) hBs).trans hs1) ((hW.cell (p := ⟨Bn, 0, none⟩) hBn).trans hn1) hJ h0
theorem kpC_t {n₀ Bs Bn : Nat} {A B C : World} (h : KpC n₀ Bs Bn A B) (k : KpC n₀ Bs Bn B C) : KpC n₀ Bs Bn A C := h.trans k
theorem kpC_b {n₀ Bs Bn : Nat} {w : World} (hn : n₀ ≤ w.heap.size) (hs : Bs < w.heap.size) (hn2 : Bn < w.heap.size) (W : World) (l : Nat) (o o' : Obj) (hl : w.heap.size ≤ l) (h : W.heap[l]? = some o) (h1 : o.isCells = false) (h2 : o.isWalk = false) : KpC n₀ Bs Bn W (W.putObj l o') :=
  ⟨belowK_b hn W l o o' hl h h1 h2, (belowK_b (n₀ := w.heap.size) (Nat.le_refl _) W l o o' hl h h1 h2).block Bs hs, (belowK_b (n₀ := w.heap.size) (Nat.le_refl _) W l o o' hl h h1 h2).block Bn hn2⟩
end Go.Proofs.Ytjdjecaclbdhhaa.Yq
end

section
namespace Go.Proofs.Ytjdjecaclbdhhaa
open Go.AL
theorem hmix : Try.prog.follows .mixedOrders = true := by kernel_rfl
theorem hown : ownKnob Try.prog.godebug = none := by kernel_rfl
end Go.Proofs.Ytjdjecaclbdhhaa
end

section
namespace Go.AL
set_option linter.unusedSimpArgs false
set_option linter.unusedVariables false

/-! ### Chunks -/
/-- Number, ids, the next one's number, is it gone? -/
abbrev Ck := Int × List Int × Int × Bool
def ckV (c : Ck) : AVal := .agg [.int .i64 c.1, .slice (iv c.2.1) 1 .ro, .int .i64 c.2.2.1, .bool c.2.2.2]
def ckC (c : Ck) : List AVal := [.int .i64 c.1, .slice (iv c.2.1) 1 .ro, .int .i64 c.2.2.1, .bool c.2.2.2]
def ckv (l : List Ck) : List AVal := l.map ckV
def ck0 : Ck := (0, [], 0, false)
theorem iv_noLoc (l : List Int) : noLocL (iv l) = true := noLocL_map (fun _ => rfl) l
theorem flat_iv (l : List Int) : flat (iv l) = iv l := flat_map (fun _ => rfl) l
def ckIs : AVal → Bool
  | .agg [.int .i64 _, .slice es s _, .int .i64 _, .bool _] => okW 1 s es && es.all isI64
  | _ => false
def ckOf : AVal → Ck
  | .agg [.int .i64 n, .slice es _ _, .int .i64 m, .bool b] => (n, es.map AVal.intOf, m, b)
  | _ => ck0
@[simp] theorem ckIs_V (c : Ck) : ckIs (ckV c) = true := by simp [ckIs, ckV, okW_same]
@[simp] theorem ckOf_V (c : Ck) : ckOf (ckV c) = c := by simp [ckOf, ckV]
theorem wk_ckC {v : AVal} (h : ckIs v = true) : WkL v.cells (ckV (ckOf v)).cells ∧ (ckV (ckOf v)).cells.length = v.cells.length := by
  unfold ckIs at h
  split at h
  · simp only [Bool.and_eq_true] at h
    exact ⟨.cons (.refl _) (.cons (wk_iv _ h.1 h.2) (.refl _)), rfl⟩
  · cases h
theorem wk_ck {v : AVal} (h : ckIs v = true) : Wk v (ckV (ckOf v)) := by
  unfold ckIs at h
  split at h
  · simp only [Bool.and_eq_true] at h
    exact Wk.agg (.cons (.refl _) (.cons (wk_iv _ h.1 h.2) (.refl _)))
  · cases h
@[simp] theorem map_ckOf (l : List Ck) : (ckv l).map ckOf = l := by
  simp only [ckv, List.map_map]
  conv => rhs; rw [← List.map_id l]
  exact List.map_congr_left fun b _ => ckOf_V b
@[simp] theorem ckv_is (l : List Ck) : (ckv l).all ckIs = true := by simp [ckv]
@[simp] theorem ckv_length (l : List Ck) : (ckv l).length = l.length := by simp [ckv]
theorem ckv_append (a b : List Ck) : ckv (a ++ b) = ckv a ++ ckv b := by simp [ckv]
theorem elemAt_ckv (l : List Ck) (i : Nat) (h : i < l.length) : elemAt (ckv l) (i : Int) = ckC l[i] := elemAt_map ckV l i h
theorem wk_cks {s : Nat} {es : List AVal} (t : Tag) (hn : okW 4 s es = true) (h : es.all ckIs = true) : Wk (.slice es s t) (.slice (ckv (es.map ckOf)) 4 .ro) := by
  rw [ckv, List.map_map]
  exact wkW_map t hn fun e he => wk_ckC (List.all_eq_true.1 h e he)
theorem ck_noOut (n : Nat) (c : Ck) : (ckV c).noOut n = true := by simp [ckV, AVal.noOut, noOutL, iv_noOut]
theorem ck_noTok (n : Nat) (c : Ck) : (ckV c).noTok n = true := by simp [ckV, AVal.noTok, noTokL, iv_noTok, Tag.below]
theorem ckv_noOut (n : Nat) (l : List Ck) : noOutL n (ckv l) = true := noOutL_map n (fun x => ck_noOut n x) l
theorem ckv_noTok (n : Nat) (l : List Ck) : noTokL n (ckv l) = true := noTokL_map n (fun x => ck_noTok n x) l
theorem ckv_noLoc (l : List Ck) : noLocL (ckv l) = true := noLocL_map (fun _ => rfl) l

/-! ### What is computed -/
def idsC (l : List Ck) : List Int := l.flatMap fun c => c.2.1
def nosC (l : List Ck) : List Int := l.map fun c => c.1
def lastI (l : List Int) : Int := l.getLastD (-1)
/-- Do numbers rise, all above another? -/
def riseF (a : Int) : List Int → Bool
  | [] => true
  | x :: r => decide (a < x) && riseF x r
def nextC (l : List Ck) (i : Nat) : Int := (l.getD (i + 1) ck0).1
/-- Is the chunk at a place as it ought to be, behind those ahead of it? -/
def okC (l : List Ck) (i : Nat) : Bool :=
  decide ((l.getD i ck0).2.2.2 = false ∧ (l.getD i ck0).2.2.1 = nextC l i ∧ 0 ≤ (l.getD i ck0).1 ∧ (l.getD i ck0).1 ∉ nosC (l.take i) ∧ ((l.getD i ck0).1 = 0 ↔ i = 0) ∧ (l.getD i ck0).2.1.length ≤ 4 ∧ (0 < i → (l.getD i ck0).2.1 ≠ []) ∧
    riseF (lastI (idsC (l.take i))) (l.getD i ck0).2.1 = true)
def rightC (l : List Ck) : Bool := decide (∀ i, i < l.length → okC l i = true)
def posI (l : List Int) (n : Int) : Nat := (l.filter fun x => decide (x < n)).length
/-- Into which chunk an id goes. -/
def placeF (id : Int) : List Ck → Nat → Nat → Nat
  | [], _, a => a
  | c :: r, i, a => placeF id r (i + 1) (if c.2.1 ≠ [] ∧ c.2.1.getD 0 0 ≤ id then i else a)
def placeC (l : List Ck) (id : Int) : Nat := placeF id l 0 0
/-! ### The least number that is free -/
theorem pig : ∀ (m : Nat) (l : List Int), (∀ k : Nat, 1 ≤ k → k ≤ m → (k : Int) ∈ l) → m ≤ l.length
  | 0, _, _ => Nat.zero_le _
  | m + 1, l, h => by
    have hm := h (m + 1) (by omega) (Nat.le_refl _)
    have ih := pig m (l.erase ((m + 1 : Nat) : Int)) fun k h1 h2 => by
      rw [List.mem_erase_of_ne (by omega)]
      exact h k h1 (by omega)
    rw [List.length_erase_of_mem hm] at ih
    have : 0 < l.length := List.length_pos_of_mem hm
    omega
def freeF : Nat → List Int → Nat → Nat
  | 0, _, n => n
  | f + 1, l, n => if (n : Int) ∈ l then freeF f l (n + 1) else n
def freeN (l : List Int) : Nat := freeF (l.length + 1) l 1
theorem freeF_spec (l : List Int) : ∀ (f n : Nat), 1 ≤ n → l.length + 2 ≤ f + n → (∀ k : Nat, 1 ≤ k → k < n → (k : Int) ∈ l) → 1 ≤ freeF f l n ∧ (freeF f l n : Int) ∉ l ∧ ∀ k : Nat, 1 ≤ k → k < freeF f l n → (k : Int) ∈ l
  | 0, n, h1, h2, h3 => by
    have := pig (n - 1) l fun k hk hk2 => h3 k hk (by omega)
    omega
  | f + 1, n, h1, h2, h3 => by
    unfold freeF
    by_cases hm : (n : Int) ∈ l
    · rw [if_pos hm]
      exact freeF_spec l f (n + 1) (by omega) (by omega) fun k hk hk2 => by
        rcases Nat.lt_or_ge k n with h4 | h4
        · exact h3 k hk h4
        · obtain rfl : k = n := by omega
          exact hm
    · rw [if_neg hm]
      exact ⟨h1, hm, h3⟩
theorem freeN_spec (l : List Int) : 1 ≤ freeN l ∧ (freeN l : Int) ∉ l ∧ ∀ k : Nat, 1 ≤ k → k < freeN l → (k : Int) ∈ l := freeF_spec l _ 1 (Nat.le_refl _) (by omega) fun k h1 h2 => by omega
theorem freeN_le (l : List Int) : freeN l ≤ l.length + 1 := by
  obtain ⟨h1, h2, h3⟩ := freeN_spec l
  have := pig (freeN l - 1) l fun k hk hk2 => h3 k hk (by omega)
  omega
theorem freeN_uniq {l : List Int} {m : Nat} (h1 : 1 ≤ m) (h2 : (m : Int) ∉ l) (h3 : ∀ k : Nat, 1 ≤ k → k < m → (k : Int) ∈ l) : m = freeN l := by
  obtain ⟨g1, g2, g3⟩ := freeN_spec l
  rcases Nat.lt_trichotomy m (freeN l) with h | h | h
  · exact (h2 (g3 m h1 h)).elim
  · exact h
  · exact (g2 (h3 _ g1 h)).elim
/-! ### Insert, Remove, Apply -/
abbrev Cc := List Ck × Int
def insK (l : List Ck) (id : Int) : Cc :=
  if rightC l then
    if id < 0 ∨ 1099511627776 ≤ id then ([], 2)
    else if (idsC l).contains id then ([], 31)
    else if l.isEmpty then ([(0, [id], 0, false)], 0)
    else
      let c := l.getD (placeC l id) ck0
      let ids := insL c.2.1 (posI c.2.1 id) id
      if ids.length ≤ 4 then ([(c.1, ids, c.2.2.1, c.2.2.2)], 0)
      else ([(c.1, ids.take 3, (freeN (nosC l) : Int), c.2.2.2), ((freeN (nosC l) : Int), ids.drop 3, c.2.2.1, false)], 0)
  else ([], 100)
def remK (l : List Ck) (id : Int) : Cc :=
  if rightC l then
    let a := placeC l id
    if (l.getD a ck0).2.1.contains id then
      let c := l.getD a ck0
      let ids := c.2.1.filter fun x => decide (x ≠ id)
      if 0 < ids.length ∨ a = 0 then ([(c.1, ids, c.2.2.1, c.2.2.2)], 0)
      else ([((l.getD (a - 1) ck0).1, (l.getD (a - 1) ck0).2.1, c.2.2.1, (l.getD (a - 1) ck0).2.2.2), (c.1, [], 0, true)], 0)
    else ([], 101)
  else ([], 100)
/-- The walk along a chain, out of chunks by their numbers: each is met once. -/
def walkF : Nat → List (Int × Ck) → Int → List Ck
  | 0, _, _ => []
  | f + 1, m, no =>
    match getI m no with
    | none => []
    | some c => if c.2.2.2 then [] else c :: (if c.2.2.1 = 0 then [] else walkF f (delI no m) c.2.2.1)
def byNo (l : List Ck) : List (Int × Ck) := l.foldl (fun m c => putI c.1 c m) []
def applyK (l ch : List Ck) : List Ck := walkF ((byNo (l ++ ch)).length + 1) (byNo (l ++ ch)) 0
end Go.AL
end

section
set_option linter.unusedVariables false
namespace Go.Proofs.Ytjdjecaclbdhhaa
open Go.AL
/-- Is the store this one? -/
noncomputable def isSto (σ τ : Sto) : Bool := hold (@decide (σ = τ) (Classical.propDecidable _))
def remI (es : List AVal) (x : Int) : List Int := (es.map AVal.intOf).filter fun y => decide (y ≠ x)
def remR (l : List Int) (x : Int) : List Int := l.filter fun y => decide (y ≠ x)
/-- A number into a list, as the reference does it. -/
def putF (n : Int) : Bool → List Int → List Int
  | d, [] => if d then [] else [n]
  | d, x :: r => if n < x ∧ d = false then n :: x :: putF n true r else x :: putF n d r
def putR (l : List Int) (n : Int) : List Int := putF n false l
def smallC (l : List Ck) : Bool := decide (l.length ≤ 40 ∧ ∀ c ∈ l, c.2.1.length ≤ 20)
def riseI (l : List Int) : Bool := decide (l.Pairwise (· < ·))
noncomputable section
def lenOk (n : Nat) : Bool := hold (decide (n ≤ 140737488351232))
def lenM (n : Nat) : Bool := hold (decide (n ≤ 1000000))
/-- A chunk whose ids are not too many. -/
def ckM (v : AVal) : Bool := ckIs v && lenM (ckOf v).2.1.length
def nanE : Ent := (53, fun xs _ => match xs with
  | [.int .i64 a] => some (.pure true (.bool false))
  | _ => none)
def nan2E : Ent := (46, fun xs _ => match xs with
  | [.int .i64 a] => some (.pure true (.bool false))
  | _ => none)
def lessE : Ent := (45, fun xs _ => match xs with
  | [.int .i64 a, .int .i64 b] => some (.pure true (.bool (hold (decide (a < b)))))
  | _ => none)
def bsE : Ent := (30, fun xs _ => match xs with
  | [.slice es s t, .int .i64 x] => some (.nm (posI (es.map AVal.intOf) x) fun p => .nm ((es.map AVal.intOf).contains x) fun b => .pure (okW 1 s es && (es.all isI64 && (hold (riseI (es.map AVal.intOf)) && lenOk es.length))) (.tuple [.int .i64 (p : Int), .bool (hold b)]))
  | _ => none)
def indexIE : Ent := (44, fun xs _ => match xs with
  | [.slice es s t, .int .i64 n] => some (.nm ((es.map AVal.intOf).contains n) fun y => .nm (if y then ((es.map AVal.intOf).idxOf n : Int) else -1) fun i => .pure (okW 1 s es && (es.all isI64 && lenOk es.length)) (.int .i64 i))
  | _ => none)
def containsIE : Ent := (27, fun xs _ => match xs with
  | [.slice es s t, .int .i64 n] => some (.pure (okW 1 s es && (es.all isI64 && lenOk es.length)) (.bool (hold ((es.map AVal.intOf).contains n))))
  | _ => none)
def rightE : Ent := (11, fun xs _ => match xs with
  | [.slice es s t] => some (.pure (okW 4 s es && (es.all ckIs && (lenM es.length && es.all ckM))) (.bool (hold (rightC (es.map ckOf)))))
  | _ => none)
def idsE : Ent := (13, fun xs _ => match xs with
  | [.slice es s t] => some (.nm (idsC (es.map ckOf)) fun y => .pure (okW 4 s es && (es.all ckIs && (lenM es.length && es.all ckM))) (.slice (iv y) 1 .ro))
  | _ => none)
def placeE : Ent := (29, fun xs _ => match xs with
  | [.slice es s t, .int .i64 x] => some (.nm (placeC (es.map ckOf) x) fun y => .pure (okW 4 s es && (es.all ckIs && (lenM es.length && es.all ckM))) (.int .i64 (y : Int)))
  | _ => none)
/-- A store with one number alone. -/
def isN1 (σ : Sto) (k : Nat) (n : Int) : Bool := Nat.beq k 0 && hold (@decide (σ = Sto.push Sto.empty (.cells [.int .i64 n])) (Classical.propDecidable _))
def n1Of (σ : Sto) (k : Nat) : Int := match σ.obj k with | some (.cells [.int .i64 n]) => n | _ => 0
def fresh1E : Ent := (50, fun xs σ => match xs with
  | [v, .ptr (.out k) 0] => some (.full (ckIs v && isN1 σ k (n1Of σ k)) (.bool (hold ((ckOf v).1 == n1Of σ k))) σ)
  | _ => none)
def isFresh1 (g : FuncId) : Bool := Nat.beq g 50
def indexFE : Ent := (55, fun xs σ => match xs with
  | [.slice es s t, .func (.func g) [] [.ptr (.out k) 0]] => some (.nm ((nosC (es.map ckOf)).contains (n1Of σ k)) fun y => .nm (if y then ((nosC (es.map ckOf)).idxOf (n1Of σ k) : Int) else -1) fun i => .full (isFresh1 g && (okW 4 s es && (es.all ckIs && (lenM es.length && isN1 σ k (n1Of σ k))))) (.int .i64 i) σ)
  | _ => none)
def containsFE : Ent := (49, fun xs σ => match xs with
  | [.slice es s t, .func (.func g) [] [.ptr (.out k) 0]] => some (.full (isFresh1 g && (okW 4 s es && (es.all ckIs && (lenM es.length && isN1 σ k (n1Of σ k))))) (.bool (hold ((nosC (es.map ckOf)).contains (n1Of σ k)))) σ)
  | _ => none)
def freshE : Ent := (32, fun xs _ => match xs with
  | [.slice es s t] => some (.nm (freeN (nosC (es.map ckOf))) fun y => .pure (okW 4 s es && (es.all ckIs && lenM es.length)) (.int .i64 (y : Int)))
  | _ => none)
/-- A copy that is turned later; one that never is; one that is appended to. -/
def cloneIE : Ent := (33, fun xs σ => match xs with
  | [.slice es s t] => some (.full (okW 1 s es && (es.all isI64 && hold (decide (es.length ≤ 1000000)))) (.mrow σ.nobj es.length) (σ.pushRow es 1))
  | _ => none)
def cloneISE : Ent := (33, fun xs σ => match xs with
  | [.slice es s t] => some (.pure (okW 1 s es && (es.all isI64 && hold (decide (es.length ≤ 1000000)))) (.slice es 1 .ro))
  | _ => none)
def cloneCE : Ent := (34, fun xs σ => match xs with
  | [.slice es s t] => some (.full (okW 4 s es && (es.all ckIs && lenM es.length)) (.slice (ckv (es.map ckOf)) 4 (.own σ.nown)) (σ.pushOwn (ckv (es.map ckOf)).length))
  | _ => none)
/-- A chunk in new memory: its ids are turned later; or never. -/
def ownME : Ent := (28, fun xs σ => match xs with
  | [v] => some (.full (ckM v) (.agg [.int .i64 (ckOf v).1, .mrow σ.nobj (iv (ckOf v).2.1).length, .int .i64 (ckOf v).2.2.1, .bool (ckOf v).2.2.2]) (σ.pushRow (iv (ckOf v).2.1) 1))
  | _ => none)
def ownSE : Ent := (28, fun xs _ => match xs with
  | [v] => some (.pure (ckM v) (.agg [.int .i64 (ckOf v).1, .slice (iv (ckOf v).2.1) 1 .ro, .int .i64 (ckOf v).2.2.1, .bool (ckOf v).2.2.2]))
  | _ => none)
def insIE : Ent := (31, fun xs σ => match xs with
  | [.mrow k n, .int .i64 i, .slice [.int .i64 x] 1 .full] => match σ.obj k with
    | some (.buf es s g) => some (.full (Nat.beq g (k + 1) && (Nat.beq s 1 && (es.all isI64 && hold (decide (n = es.length ∧ 0 ≤ i ∧ i ≤ es.length ∧ es.length ≤ 1000000))))) (.slice (insC es i.toNat (.int .i64 x)) 1 .ro) (σ.del k))
    | _ => none
  | _ => none)
/-- Remove's closure, its id frozen. -/
def isRem1 (g : FuncId) : Bool := Nat.beq g 36
def rem1E : Ent := (36, fun xs _ => match xs with
  | [.int .i64 a, .iptr [.int .i64 x]] => some (.pure true (.bool (hold (a == x))))
  | _ => none)
/-- Where is it in a row that is written? -/
def indexDE : Ent := (51, fun xs σ => match xs with
  | [.arr (.out k) 0 n c, .func (.func g) [] [.iptr [.int .i64 x]]] => match σ.obj k with
    | some (.cells cs) => some (.nm (((cs.take n).map AVal.intOf).contains x) fun y => .nm (if y then (((cs.take n).map AVal.intOf).idxOf x : Int) else -1) fun i => .full (isRem1 g && (Nat.beq k 0 && (isSto σ (Sto.one (.cells cs)) && ((cs.take n).all isI64 && hold (decide (n ≤ cs.length ∧ n ≤ 1000000)))))) (.int .i64 i) σ)
    | _ => none
  | _ => none)
def delFE : Ent := (35, fun xs σ => match xs with
  | [.mrow k n, .func (.func f) [] [.iptr [.int .i64 x]]] => match σ.obj k with
    | some (.buf es s g) => some (.nm (remI es x) fun y => .full (isRem1 f && (Nat.beq g (k + 1) && (Nat.beq s 1 && (es.all isI64 && hold (decide (n = es.length ∧ 0 < es.length ∧ es.length ≤ 1000000)))))) (.slice (iv y) 1 .ro) (σ.del k))
    | _ => none
  | _ => none)
/-- A row of one's own first, a frozen one later. -/
def ownXE : Ent := (28, fun xs σ => match Nat.beq σ.nobj 0 with
  | true => ownME.2 xs σ
  | false => ownSE.2 xs σ)
/-- Insert, Remove, Apply. -/
def insertE : Ent := (9, fun xs _ => match xs with
  | [.slice es s t, .int .i64 x] => some (.nm (insK (es.map ckOf) x) fun y => .pure (okW 4 s es && (es.all ckIs && (lenM es.length && es.all ckM))) (.tuple [.slice (ckv y.1) 4 .ro, .int .i64 y.2]))
  | _ => none)
def removeE : Ent := (16, fun xs _ => match xs with
  | [.slice es s t, .int .i64 x] => some (.nm (remK (es.map ckOf) x) fun y => .pure (okW 4 s es && (es.all ckIs && (lenM es.length && es.all ckM))) (.tuple [.slice (ckv y.1) 4 .ro, .int .i64 y.2]))
  | _ => none)
def applyE : Ent := (10, fun xs _ => match xs with
  | [.slice es s t, .slice fs s' t'] => some (.nm (applyK (es.map ckOf) (fs.map ckOf)) fun y => .pure (okW 4 s es && (okW 4 s' fs && (es.all ckIs && (fs.all ckIs && (lenM es.length && (lenM fs.length && (es.all ckM && fs.all ckM))))))) (.slice (ckv y) 4 .ro))
  | _ => none)
/-- The references. -/
def rightRE : Ent := (20, fun xs _ => match xs with
  | [.slice es s t] => some (.pure (okW 4 s es && (es.all ckIs && (lenM es.length && es.all ckM))) (.bool (hold (rightC (es.map ckOf)))))
  | _ => none)
def idsRE : Ent := (21, fun xs _ => match xs with
  | [.slice es s t] => some (.nm (idsC (es.map ckOf)) fun y => .pure (okW 4 s es && (es.all ckIs && (lenM es.length && es.all ckM))) (.slice (iv y) 1 .ro))
  | _ => none)
def hasE : Ent := (26, fun xs _ => match xs with
  | [.slice es s t, .int .i64 n] => some (.pure (okW 1 s es && (es.all isI64 && lenOk es.length)) (.bool (hold ((es.map AVal.intOf).contains n))))
  | _ => none)
def putE : Ent := (37, fun xs _ => match xs with
  | [.slice es s t, .int .i64 n] => some (.nm (putR (es.map AVal.intOf) n) fun y => .pure (okW 1 s es && (es.all isI64 && lenM es.length)) (.slice (iv y) 1 .ro))
  | _ => none)
def withoutE : Ent := (39, fun xs _ => match xs with
  | [.slice es s t, .int .i64 n] => some (.nm (remR (es.map AVal.intOf) n) fun y => .pure (okW 1 s es && (es.all isI64 && lenM es.length)) (.slice (iv y) 1 .ro))
  | _ => none)
def usedE : Ent := (38, fun xs _ => match xs with
  | [.slice es s t, .int .i64 n] => some (.pure (okW 4 s es && (es.all ckIs && lenM es.length)) (.bool (hold ((nosC (es.map ckOf)).contains n))))
  | _ => none)
def intsE : Ent := (12, fun xs _ => match xs with
  | [.slice es s t, .slice fs s' t'] => some (.pure (okW 1 s es && (okW 1 s' fs && (es.all isI64 && (fs.all isI64 && lenOk es.length)))) (.bool (hold (es.map AVal.intOf == fs.map AVal.intOf))))
  | _ => none)
def sameE : Ent := (19, fun xs _ => match xs with
  | [.slice es s t, .slice fs s' t'] => some (.pure (okW 4 s es && (okW 4 s' fs && (es.all ckIs && (fs.all ckIs && (lenM es.length && es.all ckM))))) (.bool (hold (es.map ckOf == fs.map ckOf))))
  | _ => none)
def insertRE : Ent := (17, fun xs _ => match xs with
  | [.slice es s t, .int .i64 x] => some (.nm (insK (es.map ckOf) x) fun y => .pure (okW 4 s es && (es.all ckIs && (lenM es.length && es.all ckM))) (.tuple [.slice (ckv y.1) 4 .ro, .int .i64 y.2]))
  | _ => none)
def removeRE : Ent := (18, fun xs _ => match xs with
  | [.slice es s t, .int .i64 x] => some (.nm (remK (es.map ckOf) x) fun y => .pure (okW 4 s es && (es.all ckIs && (lenM es.length && es.all ckM))) (.tuple [.slice (ckv y.1) 4 .ro, .int .i64 y.2]))
  | _ => none)
/-- The laws' own functions. -/
def smallE : Ent := (14, fun xs _ => match xs with
  | [.slice es s t] => some (.pure (okW 4 s es && (es.all ckIs && lenOk es.length)) (.bool (hold (smallC (es.map ckOf)))))
  | _ => none)
def copiedE : Ent := (15, fun xs _ => match xs with
  | [.slice es s t] => some (.nm (es.map ckOf) fun y => .pure (okW 4 s es && (es.all ckIs && (lenM es.length && es.all ckM))) (.slice (ckv y) 4 .ro))
  | _ => none)
def awakeE : Ent := (8, fun xs _ => match xs with
  | [] => some (.pure true (.bool (hold true)))
  | _ => none)
end
end Go.Proofs.Ytjdjecaclbdhhaa
end

section
set_option linter.unusedVariables false
namespace Go.Proofs.Ytjdjecaclbdhhaa
open Go.AL
/-- Five bytes of a number. -/
def enc5 (n : Int) : List UInt8 := [UInt8.ofNat (n / 4294967296 % 256).toNat, UInt8.ofNat (n / 16777216 % 256).toNat, UInt8.ofNat (n / 65536 % 256).toNat, UInt8.ofNat (n / 256 % 256).toNat, UInt8.ofNat (n % 256).toNat]
def fitsN (n : Int) : Bool := decide (0 ≤ n ∧ n < 1099511627776)
def encL (l : List Int) : List UInt8 := l.flatMap enc5
def bytesOk (c : Ck) : Bool := !c.2.2.2 && (decide (c.2.1.length ≤ 4) && (c.2.1 ++ [c.2.2.1]).all fitsN)
/-- A chunk's bytes, and the error. -/
def bytesK (c : Ck) : List UInt8 × Int := if bytesOk c then (encL (c.2.1 ++ [c.2.2.1]), 0) else ([], 2)
/-- A number of bytes. -/
def numB (l : List UInt8) : Int := l.foldl (fun n b => n * 256 + (b.toNat : Int)) 0
/-- Bytes, five at a time, as numbers. -/
def nums : Nat → List UInt8 → List Int
  | 0, _ => []
  | k + 1, s => numB (s.take 5) :: nums k (s.drop 5)
def parseOk (s : List UInt8) : Bool := decide (s ≠ [] ∧ s.length % 5 = 0 ∧ s.length ≤ 25)
/-- The chunk of bytes, and the error. -/
def parseK (no : Int) (s : List UInt8) : Ck × Int :=
  if parseOk s then ((no, nums (s.length / 5 - 1) s, numB (s.drop (s.length - 5)), false), 0) else ((0, [], 0, false), 10)
noncomputable section
def fitsE : Ent := (43, fun xs _ => match xs with
  | [.int .i64 n] => some (.pure true (.bool (hold (fitsN n))))
  | _ => none)
def bytes1E : Ent := (42, fun xs _ => match xs with
  | [.int .i64 n] => some (.pure true (.bool (hold (!fitsN n))))
  | _ => none)
def isBytes1 (g : FuncId) : Bool := Nat.beq g 42
def findN (l : List Int) : Int := if l.all fitsN then -1 else (l.findIdx (fun n => !fitsN n) : Int)
def indexBE : Ent := (51, fun xs _ => match xs with
  | [.slice es s t, .func (.func g) [] []] => some (.nm (findN (es.map AVal.intOf)) fun i => .pure (isBytes1 g && (okW 1 s es && (es.all isI64 && lenM es.length))) (.int .i64 i))
  | _ => none)
def containsBE : Ent := (41, fun xs _ => match xs with
  | [.slice es s t, .func (.func g) [] []] => some (.pure (isBytes1 g && (okW 1 s es && (es.all isI64 && lenM es.length))) (.bool (hold (!(es.map AVal.intOf).all fitsN))))
  | _ => none)
/-- A copy that is appended to. -/
def cloneOE : Ent := (33, fun xs σ => match xs with
  | [.slice es s t] => some (.full (okW 1 s es && (es.all isI64 && lenM es.length)) (.slice (iv (es.map AVal.intOf)) 1 (.own σ.nown)) (σ.pushOwn (iv (es.map AVal.intOf)).length))
  | _ => none)
def bytesE : Ent := (24, fun xs _ => match xs with
  | [v] => some (.nm (bytesK (ckOf v)) fun y => .pure (ckM v) (.tuple [.str y.1, .int .i64 y.2]))
  | _ => none)
def bytesRE : Ent := (25, fun xs _ => match xs with
  | [v] => some (.nm (bytesK (ckOf v)) fun y => .pure (ckM v) (.tuple [.str y.1, .bool (hold (y.2 == 0))]))
  | _ => none)
def parseE : Ent := (22, fun xs _ => match xs with
  | [.int .i64 no, .str s] => some (.nm (parseK no s) fun y => .pure (lenM s.length) (.tuple [ckV y.1, .int .i64 y.2]))
  | _ => none)
def parseRE : Ent := (23, fun xs _ => match xs with
  | [.int .i64 no, .str s] => some (.nm (parseK no s) fun y => .pure (lenM s.length) (.tuple [ckV y.1, .bool (hold (y.2 == 0))]))
  | _ => none)
end
end Go.Proofs.Ytjdjecaclbdhhaa
end

section
set_option maxRecDepth 100000
set_option maxHeartbeats 0
set_option linter.unusedVariables false
namespace Go.Proofs.Ytjdjecaclbdhhaa.Yk
open Go.AL Go.Proofs
noncomputable def cParseR : Cfg := { keep := [0, 1, 4, 5, 6, 7, 8, 9, 23, 30, 34, 50], cut := [(11, [1, 4, 6, 7], [4, 6]), (19, [1, 4, 6, 7, 8, 9], [4, 6]), (12, [1, 4, 6, 7], [4, 6]), (24, [1, 4, 6, 7, 8], [4, 6]), (30, [4, 6], [4, 6])] }
noncomputable def code_23_ : Code := (Try.f23.body).getD .skip
noncomputable def code_23_1_1_1_1 : Code := codeAt code_23_ [1, 1, 1, 1]
noncomputable def code_23_1_1_1_0_1_0_0 : Code := codeAt code_23_ [1, 1, 1, 0, 1, 0, 0]
noncomputable def code_23_1_1_1_0_1_0_0_1_1 : Code := codeAt code_23_ [1, 1, 1, 0, 1, 0, 0, 1, 1]
noncomputable def code_23_1_1_1_0_1_0_0_1_0_0_1_1 : Code := codeAt code_23_ [1, 1, 1, 0, 1, 0, 0, 1, 0, 0, 1, 1]
noncomputable def code_23_1_1_1_0_1_0_0_1_0_0_1_0_1_0_0 : Code := codeAt code_23_ [1, 1, 1, 0, 1, 0, 0, 1, 0, 0, 1, 0, 1, 0, 0]
theorem parseR_r (no : Int) (s : List UInt8) (Q : AVal → Sto → Prop) : vc Try.prog cParseR code_23_ (endK Try.prog Try.f23.results.toList Q) (St.start Try.f23.ntmps [.int .i64 no, .str s] (Sto.empty)) =
  (brV (hold (decide ((↑(List.length s) : Int) < (5 : Int)))) false (brV (hold (decide ((25 : Int) < (↑(List.length s) : Int)))) false (brV (hold (Int.tmod (↑(List.length s) : Int) (5 : Int) != (0 : Int))) true (Q (AVal.tuple [AVal.agg [AVal.int IntKind.i64 (0 : Int), AVal.slice [] 0 Tag.nil, AVal.int IntKind.i64 (0 : Int), AVal.bool false], AVal.bool false]) Sto.empty) (loopV (fun s => St.norm [] [1, 4, 6, 7] [4, 6] s) (vc Try.prog cParseR code_23_1_1_1_0_1_0_0) (blockK 0 (thenK (fun s => cutV (vc Try.prog cParseR code_23_1_1_1_1 (endK Try.prog (Array.toList (Go.Func.results Try.f23)) Q)) (St.norm [] [4, 6] [4, 6] s)) (endK Try.prog (Array.toList (Go.Func.results Try.f23)) Q))) (St.mk 60 [(1, AVal.str s), (4, AVal.ptr (Oid.loc 4) 0), (6, AVal.ptr (Oid.loc 6) 0), (7, AVal.int IntKind.i64 (0 : Int))] [] [(4, AObj.cells [AVal.int IntKind.i64 (0 : Int), AVal.slice [] 0 Tag.nil, AVal.int IntKind.i64 (0 : Int), AVal.bool false]), (6, AObj.cells [AVal.int IntKind.i64 no, AVal.slice [] 0 Tag.nil, AVal.int IntKind.i64 (0 : Int), AVal.bool false])] Sto.empty))) (Q (AVal.tuple [AVal.agg [AVal.int IntKind.i64 (0 : Int), AVal.slice [] 0 Tag.nil, AVal.int IntKind.i64 (0 : Int), AVal.bool false], AVal.bool false]) Sto.empty)) (Q (AVal.tuple [AVal.agg [AVal.int IntKind.i64 (0 : Int), AVal.slice [] 0 Tag.nil, AVal.int IntKind.i64 (0 : Int), AVal.bool false], AVal.bool false]) Sto.empty)) := by kernel_rfl
theorem parseR_i (no : Int) (s : List UInt8) (Q : AVal → Sto → Prop) (ho : OrcOk Try.prog cParseR) (h : brV (hold (decide ((↑(List.length s) : Int) < (5 : Int)))) false (brV (hold (decide ((25 : Int) < (↑(List.length s) : Int)))) false (brV (hold (Int.tmod (↑(List.length s) : Int) (5 : Int) != (0 : Int))) true (Q (AVal.tuple [AVal.agg [AVal.int IntKind.i64 (0 : Int), AVal.slice [] 0 Tag.nil, AVal.int IntKind.i64 (0 : Int), AVal.bool false], AVal.bool false]) Sto.empty) (loopV (fun s => St.norm [] [1, 4, 6, 7] [4, 6] s) (vc Try.prog cParseR code_23_1_1_1_0_1_0_0) (blockK 0 (thenK (fun s => cutV (vc Try.prog cParseR code_23_1_1_1_1 (endK Try.prog (Array.toList (Go.Func.results Try.f23)) Q)) (St.norm [] [4, 6] [4, 6] s)) (endK Try.prog (Array.toList (Go.Func.results Try.f23)) Q))) (St.mk 60 [(1, AVal.str s), (4, AVal.ptr (Oid.loc 4) 0), (6, AVal.ptr (Oid.loc 6) 0), (7, AVal.int IntKind.i64 (0 : Int))] [] [(4, AObj.cells [AVal.int IntKind.i64 (0 : Int), AVal.slice [] 0 Tag.nil, AVal.int IntKind.i64 (0 : Int), AVal.bool false]), (6, AObj.cells [AVal.int IntKind.i64 no, AVal.slice [] 0 Tag.nil, AVal.int IntKind.i64 (0 : Int), AVal.bool false])] Sto.empty))) (Q (AVal.tuple [AVal.agg [AVal.int IntKind.i64 (0 : Int), AVal.slice [] 0 Tag.nil, AVal.int IntKind.i64 (0 : Int), AVal.bool false], AVal.bool false]) Sto.empty)) (Q (AVal.tuple [AVal.agg [AVal.int IntKind.i64 (0 : Int), AVal.slice [] 0 Tag.nil, AVal.int IntKind.i64 (0 : Int), AVal.bool false], AVal.bool false]) Sto.empty)) : ACall Try.prog 23 [.int .i64 no, .str s] (Sto.empty) Q :=
  ACall.intro hmix Try.func23 (c := code_23_) (by kernel_rfl) cParseR ho (Nat.le_of_ble_eq_true (by kernel_rfl)) (by rw [parseR_r]; exact h)
noncomputable def parseRNL_S (s : List UInt8) (no nx : Int) (i : Nat) : St := St.mk 60 [(1, .str s), (4, .ptr (.loc 4) 0), (6, .ptr (.loc 6) 0), (7, .int .i64 (i : Int))] [] [(4, .cells [.int .i64 0, .slice [] 0 .nil, .int .i64 0, .bool false]), (6, .cells [.int .i64 no, .slice [] 0 .nil, .int .i64 nx, .bool false])] (Sto.empty)
noncomputable abbrev parseRNL_C : Code := code_23_1_1_1_0_1_0_0
theorem parseRNL_r (s : List UInt8) (no nx : Int) (i : Nat) (L : St → Prop) (K : Exit → St → Prop) : vc Try.prog cParseR code_23_1_1_1_0_1_0_0 (thenK (fun s => L (St.norm [] [1, 4, 6, 7] [4, 6] s)) K) (St.mk 60 [(1, .str s), (4, .ptr (.loc 4) 0), (6, .ptr (.loc 6) 0), (7, .int .i64 (i : Int))] [] [(4, .cells [.int .i64 0, .slice [] 0 .nil, .int .i64 0, .bool false]), (6, .cells [.int .i64 no, .slice [] 0 .nil, .int .i64 nx, .bool false])] (Sto.empty)) =
  (brV (hold (decide ((↑i : Int) < (↑(List.length s) : Int)))) true (loopV (fun s => St.norm [] [1, 4, 6, 7, 8, 9] [4, 6] s) (vc Try.prog cParseR code_23_1_1_1_0_1_0_0_1_0_0_1_0_1_0_0) (blockK 2 (thenK (fun s => cutV (vc Try.prog cParseR code_23_1_1_1_0_1_0_0_1_0_0_1_1 (blockK 1 (thenK (fun s => cutV (vc Try.prog cParseR code_23_1_1_1_0_1_0_0_1_1 (thenK (fun s => L (St.norm [] [1, 4, 6, 7] [4, 6] s)) K)) (St.norm [] [1, 4, 6, 7] [4, 6] s)) (thenK (fun s => L (St.norm [] [1, 4, 6, 7] [4, 6] s)) K)))) (St.norm [] [1, 4, 6, 7, 8] [4, 6] s)) (blockK 1 (thenK (fun s => cutV (vc Try.prog cParseR code_23_1_1_1_0_1_0_0_1_1 (thenK (fun s => L (St.norm [] [1, 4, 6, 7] [4, 6] s)) K)) (St.norm [] [1, 4, 6, 7] [4, 6] s)) (thenK (fun s => L (St.norm [] [1, 4, 6, 7] [4, 6] s)) K))))) (St.mk 60 [(1, AVal.str s), (4, AVal.ptr (Oid.loc 4) 0), (6, AVal.ptr (Oid.loc 6) 0), (7, AVal.int IntKind.i64 (↑i : Int)), (8, AVal.int IntKind.i64 (0 : Int)), (9, AVal.int IntKind.i64 (0 : Int))] [] [(4, AObj.cells [AVal.int IntKind.i64 (0 : Int), AVal.slice [] 0 Tag.nil, AVal.int IntKind.i64 (0 : Int), AVal.bool false]), (6, AObj.cells [AVal.int IntKind.i64 no, AVal.slice [] 0 Tag.nil, AVal.int IntKind.i64 nx, AVal.bool false])] Sto.empty)) (K (Exit.exit 0) (St.mk 60 [(1, AVal.str s), (4, AVal.ptr (Oid.loc 4) 0), (6, AVal.ptr (Oid.loc 6) 0), (7, AVal.int IntKind.i64 (↑i : Int)), (30, AVal.bool (hold (decide ((↑i : Int) < (↑(List.length s) : Int)))))] [] [(4, AObj.cells [AVal.int IntKind.i64 (0 : Int), AVal.slice [] 0 Tag.nil, AVal.int IntKind.i64 (0 : Int), AVal.bool false]), (6, AObj.cells [AVal.int IntKind.i64 no, AVal.slice [] 0 Tag.nil, AVal.int IntKind.i64 nx, AVal.bool false])] Sto.empty))) := by kernel_rfl
noncomputable def parseRNI_S (s : List UInt8) (no nx : Int) (i j : Nat) (a : Int) : St := St.mk 60 [(1, .str s), (4, .ptr (.loc 4) 0), (6, .ptr (.loc 6) 0), (7, .int .i64 (i : Int)), (8, .int .i64 a), (9, .int .i64 (j : Int))] [] [(4, .cells [.int .i64 0, .slice [] 0 .nil, .int .i64 0, .bool false]), (6, .cells [.int .i64 no, .slice [] 0 .nil, .int .i64 nx, .bool false])] (Sto.empty)
noncomputable abbrev parseRNI_C : Code := code_23_1_1_1_0_1_0_0_1_0_0_1_0_1_0_0
theorem parseRNI_r (s : List UInt8) (no nx : Int) (i j : Nat) (a : Int) (L : St → Prop) (K : Exit → St → Prop) : vc Try.prog cParseR code_23_1_1_1_0_1_0_0_1_0_0_1_0_1_0_0 (thenK (fun s => L (St.norm [] [1, 4, 6, 7, 8, 9] [4, 6] s)) K) (St.mk 60 [(1, .str s), (4, .ptr (.loc 4) 0), (6, .ptr (.loc 6) 0), (7, .int .i64 (i : Int)), (8, .int .i64 a), (9, .int .i64 (j : Int))] [] [(4, .cells [.int .i64 0, .slice [] 0 .nil, .int .i64 0, .bool false]), (6, .cells [.int .i64 no, .slice [] 0 .nil, .int .i64 nx, .bool false])] (Sto.empty)) =
  (brV (hold (decide ((↑j : Int) < (5 : Int)))) true (gb (decide ((0 : Int) ≤ IntKind.wrap IntKind.i64 ((↑i : Int) + (↑j : Int)) ∧ IntKind.wrap IntKind.i64 ((↑i : Int) + (↑j : Int)) < (↑(List.length s) : Int))) (L (St.mk 60 [(1, AVal.str s), (4, AVal.ptr (Oid.loc 4) 0), (6, AVal.ptr (Oid.loc 6) 0), (7, AVal.int IntKind.i64 (↑i : Int)), (8, AVal.int IntKind.i64 (IntKind.wrap IntKind.i64 (IntKind.wrap IntKind.i64 (a * (256 : Int)) + IntKind.wrap IntKind.i64 (↑(UInt8.toNat (List.getD s (Int.toNat (IntKind.wrap IntKind.i64 ((↑i : Int) + (↑j : Int)))) (0 : UInt8))) : Int)))), (9, AVal.int IntKind.i64 (IntKind.wrap IntKind.i64 ((↑j : Int) + (1 : Int))))] [] [(4, AObj.cells [AVal.int IntKind.i64 (0 : Int), AVal.slice [] 0 Tag.nil, AVal.int IntKind.i64 (0 : Int), AVal.bool false]), (6, AObj.cells [AVal.int IntKind.i64 no, AVal.slice [] 0 Tag.nil, AVal.int IntKind.i64 nx, AVal.bool false])] Sto.empty))) (K (Exit.exit 2) (St.mk 60 [(1, AVal.str s), (4, AVal.ptr (Oid.loc 4) 0), (6, AVal.ptr (Oid.loc 6) 0), (7, AVal.int IntKind.i64 (↑i : Int)), (8, AVal.int IntKind.i64 a), (9, AVal.int IntKind.i64 (↑j : Int)), (34, AVal.bool (hold (decide ((↑j : Int) < (5 : Int)))))] [] [(4, AObj.cells [AVal.int IntKind.i64 (0 : Int), AVal.slice [] 0 Tag.nil, AVal.int IntKind.i64 (0 : Int), AVal.bool false]), (6, AObj.cells [AVal.int IntKind.i64 no, AVal.slice [] 0 Tag.nil, AVal.int IntKind.i64 nx, AVal.bool false])] Sto.empty))) := by kernel_rfl
noncomputable def parseRNM_S (s : List UInt8) (no nx : Int) (i : Nat) (a : Int) : St := St.mk 60 [(1, .str s), (4, .ptr (.loc 4) 0), (6, .ptr (.loc 6) 0), (7, .int .i64 (i : Int)), (8, .int .i64 a)] [] [(4, .cells [.int .i64 0, .slice [] 0 .nil, .int .i64 0, .bool false]), (6, .cells [.int .i64 no, .slice [] 0 .nil, .int .i64 nx, .bool false])] (Sto.empty)
noncomputable abbrev parseRNM_C : Code := code_23_1_1_1_0_1_0_0_1_0_0_1_1
theorem parseRNM_r (s : List UInt8) (no nx : Int) (i : Nat) (a : Int) (K : Exit → St → Prop) : vc Try.prog cParseR code_23_1_1_1_0_1_0_0_1_0_0_1_1 K (St.mk 60 [(1, .str s), (4, .ptr (.loc 4) 0), (6, .ptr (.loc 6) 0), (7, .int .i64 (i : Int)), (8, .int .i64 a)] [] [(4, .cells [.int .i64 0, .slice [] 0 .nil, .int .i64 0, .bool false]), (6, .cells [.int .i64 no, .slice [] 0 .nil, .int .i64 nx, .bool false])] (Sto.empty)) =
  (brV (hold (IntKind.wrap IntKind.i64 ((↑i : Int) + (5 : Int)) == (↑(List.length s) : Int))) true (K Exit.normal (St.mk 60 [(1, AVal.str s), (4, AVal.ptr (Oid.loc 4) 0), (6, AVal.ptr (Oid.loc 6) 0), (7, AVal.int IntKind.i64 (↑i : Int)), (8, AVal.int IntKind.i64 a), (50, AVal.bool (hold (IntKind.wrap IntKind.i64 ((↑i : Int) + (5 : Int)) == (↑(List.length s) : Int))))] [] [(4, AObj.cells [AVal.int IntKind.i64 (0 : Int), AVal.slice [] 0 Tag.nil, AVal.int IntKind.i64 (0 : Int), AVal.bool false]), (6, AObj.cells [AVal.int IntKind.i64 no, AVal.slice [] 0 Tag.nil, AVal.int IntKind.i64 a, AVal.bool false])] Sto.empty)) (K Exit.normal (St.mk 60 [(1, AVal.str s), (4, AVal.ptr (Oid.loc 4) 0), (6, AVal.ptr (Oid.loc 6) 0), (7, AVal.int IntKind.i64 (↑i : Int)), (8, AVal.int IntKind.i64 a), (50, AVal.bool (hold (IntKind.wrap IntKind.i64 ((↑i : Int) + (5 : Int)) == (↑(List.length s) : Int))))] [] [(4, AObj.cells [AVal.int IntKind.i64 (0 : Int), AVal.slice [] 0 Tag.nil, AVal.int IntKind.i64 (0 : Int), AVal.bool false]), (6, AObj.cells [AVal.int IntKind.i64 no, AVal.slice [AVal.int IntKind.i64 a] 1 (Tag.own 0), AVal.int IntKind.i64 nx, AVal.bool false])] (Sto.pushOwn Sto.empty 1)))) := by kernel_rfl
noncomputable def parseRNP_S (s : List UInt8) (no nx : Int) (i : Nat) : St := St.mk 60 [(1, .str s), (4, .ptr (.loc 4) 0), (6, .ptr (.loc 6) 0), (7, .int .i64 (i : Int))] [] [(4, .cells [.int .i64 0, .slice [] 0 .nil, .int .i64 0, .bool false]), (6, .cells [.int .i64 no, .slice [] 0 .nil, .int .i64 nx, .bool false])] (Sto.empty)
noncomputable abbrev parseRNP_C : Code := code_23_1_1_1_0_1_0_0_1_1
theorem parseRNP_r (s : List UInt8) (no nx : Int) (i : Nat) (K : Exit → St → Prop) : vc Try.prog cParseR code_23_1_1_1_0_1_0_0_1_1 K (St.mk 60 [(1, .str s), (4, .ptr (.loc 4) 0), (6, .ptr (.loc 6) 0), (7, .int .i64 (i : Int))] [] [(4, .cells [.int .i64 0, .slice [] 0 .nil, .int .i64 0, .bool false]), (6, .cells [.int .i64 no, .slice [] 0 .nil, .int .i64 nx, .bool false])] (Sto.empty)) =
  (K Exit.normal (St.mk 60 [(1, AVal.str s), (4, AVal.ptr (Oid.loc 4) 0), (6, AVal.ptr (Oid.loc 6) 0), (7, AVal.int IntKind.i64 (IntKind.wrap IntKind.i64 ((↑i : Int) + (5 : Int))))] [] [(4, AObj.cells [AVal.int IntKind.i64 (0 : Int), AVal.slice [] 0 Tag.nil, AVal.int IntKind.i64 (0 : Int), AVal.bool false]), (6, AObj.cells [AVal.int IntKind.i64 no, AVal.slice [] 0 Tag.nil, AVal.int IntKind.i64 nx, AVal.bool false])] Sto.empty)) := by kernel_rfl
noncomputable def parseROL_S (s : List UInt8) (no nx : Int) (i : Nat) (l : List Int) (m : Nat) : St := St.mk 60 [(1, .str s), (4, .ptr (.loc 4) 0), (6, .ptr (.loc 6) 0), (7, .int .i64 (i : Int))] [] [(4, .cells [.int .i64 0, .slice [] 0 .nil, .int .i64 0, .bool false]), (6, .cells [.int .i64 no, .slice (iv l) 1 (.own 0), .int .i64 nx, .bool false])] (Sto.pushOwn Sto.empty m)
noncomputable abbrev parseROL_C : Code := code_23_1_1_1_0_1_0_0
theorem parseROL_r (s : List UInt8) (no nx : Int) (i : Nat) (l : List Int) (m : Nat) (L : St → Prop) (K : Exit → St → Prop) : vc Try.prog cParseR code_23_1_1_1_0_1_0_0 (thenK (fun s => L (St.norm [] [1, 4, 6, 7] [4, 6] s)) K) (St.mk 60 [(1, .str s), (4, .ptr (.loc 4) 0), (6, .ptr (.loc 6) 0), (7, .int .i64 (i : Int))] [] [(4, .cells [.int .i64 0, .slice [] 0 .nil, .int .i64 0, .bool false]), (6, .cells [.int .i64 no, .slice (iv l) 1 (.own 0), .int .i64 nx, .bool false])] (Sto.pushOwn Sto.empty m)) =
  (brV (hold (decide ((↑i : Int) < (↑(List.length s) : Int)))) true (loopV (fun s => St.norm [] [1, 4, 6, 7, 8, 9] [4, 6] s) (vc Try.prog cParseR code_23_1_1_1_0_1_0_0_1_0_0_1_0_1_0_0) (blockK 2 (thenK (fun s => cutV (vc Try.prog cParseR code_23_1_1_1_0_1_0_0_1_0_0_1_1 (blockK 1 (thenK (fun s => cutV (vc Try.prog cParseR code_23_1_1_1_0_1_0_0_1_1 (thenK (fun s => L (St.norm [] [1, 4, 6, 7] [4, 6] s)) K)) (St.norm [] [1, 4, 6, 7] [4, 6] s)) (thenK (fun s => L (St.norm [] [1, 4, 6, 7] [4, 6] s)) K)))) (St.norm [] [1, 4, 6, 7, 8] [4, 6] s)) (blockK 1 (thenK (fun s => cutV (vc Try.prog cParseR code_23_1_1_1_0_1_0_0_1_1 (thenK (fun s => L (St.norm [] [1, 4, 6, 7] [4, 6] s)) K)) (St.norm [] [1, 4, 6, 7] [4, 6] s)) (thenK (fun s => L (St.norm [] [1, 4, 6, 7] [4, 6] s)) K))))) (St.mk 60 [(1, AVal.str s), (4, AVal.ptr (Oid.loc 4) 0), (6, AVal.ptr (Oid.loc 6) 0), (7, AVal.int IntKind.i64 (↑i : Int)), (8, AVal.int IntKind.i64 (0 : Int)), (9, AVal.int IntKind.i64 (0 : Int))] [] [(4, AObj.cells [AVal.int IntKind.i64 (0 : Int), AVal.slice [] 0 Tag.nil, AVal.int IntKind.i64 (0 : Int), AVal.bool false]), (6, AObj.cells [AVal.int IntKind.i64 no, AVal.slice (iv l) 1 (Tag.own 0), AVal.int IntKind.i64 nx, AVal.bool false])] (Sto.pushOwn Sto.empty m))) (K (Exit.exit 0) (St.mk 60 [(1, AVal.str s), (4, AVal.ptr (Oid.loc 4) 0), (6, AVal.ptr (Oid.loc 6) 0), (7, AVal.int IntKind.i64 (↑i : Int)), (30, AVal.bool (hold (decide ((↑i : Int) < (↑(List.length s) : Int)))))] [] [(4, AObj.cells [AVal.int IntKind.i64 (0 : Int), AVal.slice [] 0 Tag.nil, AVal.int IntKind.i64 (0 : Int), AVal.bool false]), (6, AObj.cells [AVal.int IntKind.i64 no, AVal.slice (iv l) 1 (Tag.own 0), AVal.int IntKind.i64 nx, AVal.bool false])] (Sto.pushOwn Sto.empty m)))) := by kernel_rfl
noncomputable def parseROI_S (s : List UInt8) (no nx : Int) (i j : Nat) (a : Int) (l : List Int) (m : Nat) : St := St.mk 60 [(1, .str s), (4, .ptr (.loc 4) 0), (6, .ptr (.loc 6) 0), (7, .int .i64 (i : Int)), (8, .int .i64 a), (9, .int .i64 (j : Int))] [] [(4, .cells [.int .i64 0, .slice [] 0 .nil, .int .i64 0, .bool false]), (6, .cells [.int .i64 no, .slice (iv l) 1 (.own 0), .int .i64 nx, .bool false])] (Sto.pushOwn Sto.empty m)
noncomputable abbrev parseROI_C : Code := code_23_1_1_1_0_1_0_0_1_0_0_1_0_1_0_0
theorem parseROI_r (s : List UInt8) (no nx : Int) (i j : Nat) (a : Int) (l : List Int) (m : Nat) (L : St → Prop) (K : Exit → St → Prop) : vc Try.prog cParseR code_23_1_1_1_0_1_0_0_1_0_0_1_0_1_0_0 (thenK (fun s => L (St.norm [] [1, 4, 6, 7, 8, 9] [4, 6] s)) K) (St.mk 60 [(1, .str s), (4, .ptr (.loc 4) 0), (6, .ptr (.loc 6) 0), (7, .int .i64 (i : Int)), (8, .int .i64 a), (9, .int .i64 (j : Int))] [] [(4, .cells [.int .i64 0, .slice [] 0 .nil, .int .i64 0, .bool false]), (6, .cells [.int .i64 no, .slice (iv l) 1 (.own 0), .int .i64 nx, .bool false])] (Sto.pushOwn Sto.empty m)) =
  (brV (hold (decide ((↑j : Int) < (5 : Int)))) true (gb (decide ((0 : Int) ≤ IntKind.wrap IntKind.i64 ((↑i : Int) + (↑j : Int)) ∧ IntKind.wrap IntKind.i64 ((↑i : Int) + (↑j : Int)) < (↑(List.length s) : Int))) (L (St.mk 60 [(1, AVal.str s), (4, AVal.ptr (Oid.loc 4) 0), (6, AVal.ptr (Oid.loc 6) 0), (7, AVal.int IntKind.i64 (↑i : Int)), (8, AVal.int IntKind.i64 (IntKind.wrap IntKind.i64 (IntKind.wrap IntKind.i64 (a * (256 : Int)) + IntKind.wrap IntKind.i64 (↑(UInt8.toNat (List.getD s (Int.toNat (IntKind.wrap IntKind.i64 ((↑i : Int) + (↑j : Int)))) (0 : UInt8))) : Int)))), (9, AVal.int IntKind.i64 (IntKind.wrap IntKind.i64 ((↑j : Int) + (1 : Int))))] [] [(4, AObj.cells [AVal.int IntKind.i64 (0 : Int), AVal.slice [] 0 Tag.nil, AVal.int IntKind.i64 (0 : Int), AVal.bool false]), (6, AObj.cells [AVal.int IntKind.i64 no, AVal.slice (iv l) 1 (Tag.own 0), AVal.int IntKind.i64 nx, AVal.bool false])] (Sto.pushOwn Sto.empty m)))) (K (Exit.exit 2) (St.mk 60 [(1, AVal.str s), (4, AVal.ptr (Oid.loc 4) 0), (6, AVal.ptr (Oid.loc 6) 0), (7, AVal.int IntKind.i64 (↑i : Int)), (8, AVal.int IntKind.i64 a), (9, AVal.int IntKind.i64 (↑j : Int)), (34, AVal.bool (hold (decide ((↑j : Int) < (5 : Int)))))] [] [(4, AObj.cells [AVal.int IntKind.i64 (0 : Int), AVal.slice [] 0 Tag.nil, AVal.int IntKind.i64 (0 : Int), AVal.bool false]), (6, AObj.cells [AVal.int IntKind.i64 no, AVal.slice (iv l) 1 (Tag.own 0), AVal.int IntKind.i64 nx, AVal.bool false])] (Sto.pushOwn Sto.empty m)))) := by kernel_rfl
noncomputable def parseROM_S (s : List UInt8) (no nx : Int) (i : Nat) (a : Int) (l : List Int) (m : Nat) : St := St.mk 60 [(1, .str s), (4, .ptr (.loc 4) 0), (6, .ptr (.loc 6) 0), (7, .int .i64 (i : Int)), (8, .int .i64 a)] [] [(4, .cells [.int .i64 0, .slice [] 0 .nil, .int .i64 0, .bool false]), (6, .cells [.int .i64 no, .slice (iv l) 1 (.own 0), .int .i64 nx, .bool false])] (Sto.pushOwn Sto.empty m)
noncomputable abbrev parseROM_C : Code := code_23_1_1_1_0_1_0_0_1_0_0_1_1
theorem parseROM_r (s : List UInt8) (no nx : Int) (i : Nat) (a : Int) (l : List Int) (m : Nat) (K : Exit → St → Prop) : vc Try.prog cParseR code_23_1_1_1_0_1_0_0_1_0_0_1_1 K (St.mk 60 [(1, .str s), (4, .ptr (.loc 4) 0), (6, .ptr (.loc 6) 0), (7, .int .i64 (i : Int)), (8, .int .i64 a)] [] [(4, .cells [.int .i64 0, .slice [] 0 .nil, .int .i64 0, .bool false]), (6, .cells [.int .i64 no, .slice (iv l) 1 (.own 0), .int .i64 nx, .bool false])] (Sto.pushOwn Sto.empty m)) =
  (brV (hold (IntKind.wrap IntKind.i64 ((↑i : Int) + (5 : Int)) == (↑(List.length s) : Int))) true (K Exit.normal (St.mk 60 [(1, AVal.str s), (4, AVal.ptr (Oid.loc 4) 0), (6, AVal.ptr (Oid.loc 6) 0), (7, AVal.int IntKind.i64 (↑i : Int)), (8, AVal.int IntKind.i64 a), (50, AVal.bool (hold (IntKind.wrap IntKind.i64 ((↑i : Int) + (5 : Int)) == (↑(List.length s) : Int))))] [] [(4, AObj.cells [AVal.int IntKind.i64 (0 : Int), AVal.slice [] 0 Tag.nil, AVal.int IntKind.i64 (0 : Int), AVal.bool false]), (6, AObj.cells [AVal.int IntKind.i64 no, AVal.slice (iv l) 1 (Tag.own 0), AVal.int IntKind.i64 a, AVal.bool false])] (Sto.pushOwn Sto.empty m))) (gb (decide (decide (true = true ∧ some m = some (List.length (iv l)) ∧ (List.length (iv l) + 1) * 8 ≤ 140737488355328 ∧ List.length (iv l) + 1 ≤ 9223372036854775807) = true ∧ true = true)) (K Exit.normal (St.mk 60 [(1, AVal.str s), (4, AVal.ptr (Oid.loc 4) 0), (6, AVal.ptr (Oid.loc 6) 0), (7, AVal.int IntKind.i64 (↑i : Int)), (8, AVal.int IntKind.i64 a), (50, AVal.bool (hold (IntKind.wrap IntKind.i64 ((↑i : Int) + (5 : Int)) == (↑(List.length s) : Int))))] [] [(4, AObj.cells [AVal.int IntKind.i64 (0 : Int), AVal.slice [] 0 Tag.nil, AVal.int IntKind.i64 (0 : Int), AVal.bool false]), (6, AObj.cells [AVal.int IntKind.i64 no, AVal.slice (iv l ++ [AVal.int IntKind.i64 a]) 1 (Tag.own 0), AVal.int IntKind.i64 nx, AVal.bool false])] (Sto.setOwn (Sto.pushOwn Sto.empty m) 0 (List.length (iv l) + 1)))))) := by kernel_rfl
noncomputable def parseROP_S (s : List UInt8) (no nx : Int) (i : Nat) (l : List Int) (m : Nat) : St := St.mk 60 [(1, .str s), (4, .ptr (.loc 4) 0), (6, .ptr (.loc 6) 0), (7, .int .i64 (i : Int))] [] [(4, .cells [.int .i64 0, .slice [] 0 .nil, .int .i64 0, .bool false]), (6, .cells [.int .i64 no, .slice (iv l) 1 (.own 0), .int .i64 nx, .bool false])] (Sto.pushOwn Sto.empty m)
noncomputable abbrev parseROP_C : Code := code_23_1_1_1_0_1_0_0_1_1
theorem parseROP_r (s : List UInt8) (no nx : Int) (i : Nat) (l : List Int) (m : Nat) (K : Exit → St → Prop) : vc Try.prog cParseR code_23_1_1_1_0_1_0_0_1_1 K (St.mk 60 [(1, .str s), (4, .ptr (.loc 4) 0), (6, .ptr (.loc 6) 0), (7, .int .i64 (i : Int))] [] [(4, .cells [.int .i64 0, .slice [] 0 .nil, .int .i64 0, .bool false]), (6, .cells [.int .i64 no, .slice (iv l) 1 (.own 0), .int .i64 nx, .bool false])] (Sto.pushOwn Sto.empty m)) =
  (K Exit.normal (St.mk 60 [(1, AVal.str s), (4, AVal.ptr (Oid.loc 4) 0), (6, AVal.ptr (Oid.loc 6) 0), (7, AVal.int IntKind.i64 (IntKind.wrap IntKind.i64 ((↑i : Int) + (5 : Int))))] [] [(4, AObj.cells [AVal.int IntKind.i64 (0 : Int), AVal.slice [] 0 Tag.nil, AVal.int IntKind.i64 (0 : Int), AVal.bool false]), (6, AObj.cells [AVal.int IntKind.i64 no, AVal.slice (iv l) 1 (Tag.own 0), AVal.int IntKind.i64 nx, AVal.bool false])] (Sto.pushOwn Sto.empty m))) := by kernel_rfl
noncomputable def parseRNF_S (no nx : Int) : St := St.mk 60 [(4, .ptr (.loc 4) 0), (6, .ptr (.loc 6) 0)] [] [(4, .cells [.int .i64 0, .slice [] 0 .nil, .int .i64 0, .bool false]), (6, .cells [.int .i64 no, .slice [] 0 .nil, .int .i64 nx, .bool false])] (Sto.empty)
noncomputable abbrev parseRNF_C : Code := code_23_1_1_1_1
theorem parseRNF_r (no nx : Int) (Q : AVal → Sto → Prop) : vc Try.prog cParseR code_23_1_1_1_1 (endK Try.prog Try.f23.results.toList Q) (St.mk 60 [(4, .ptr (.loc 4) 0), (6, .ptr (.loc 6) 0)] [] [(4, .cells [.int .i64 0, .slice [] 0 .nil, .int .i64 0, .bool false]), (6, .cells [.int .i64 no, .slice [] 0 .nil, .int .i64 nx, .bool false])] (Sto.empty)) =
  (Q (AVal.tuple [AVal.agg [AVal.int IntKind.i64 no, AVal.slice [] 0 Tag.nil, AVal.int IntKind.i64 nx, AVal.bool false], AVal.bool true]) Sto.empty) := by kernel_rfl
noncomputable def parseROF_S (no nx : Int) (l : List Int) (m : Nat) : St := St.mk 60 [(4, .ptr (.loc 4) 0), (6, .ptr (.loc 6) 0)] [] [(4, .cells [.int .i64 0, .slice [] 0 .nil, .int .i64 0, .bool false]), (6, .cells [.int .i64 no, .slice (iv l) 1 (.own 0), .int .i64 nx, .bool false])] (Sto.pushOwn Sto.empty m)
noncomputable abbrev parseROF_C : Code := code_23_1_1_1_1
theorem parseROF_r (no nx : Int) (l : List Int) (m : Nat) (Q : AVal → Sto → Prop) : vc Try.prog cParseR code_23_1_1_1_1 (endK Try.prog Try.f23.results.toList Q) (St.mk 60 [(4, .ptr (.loc 4) 0), (6, .ptr (.loc 6) 0)] [] [(4, .cells [.int .i64 0, .slice [] 0 .nil, .int .i64 0, .bool false]), (6, .cells [.int .i64 no, .slice (iv l) 1 (.own 0), .int .i64 nx, .bool false])] (Sto.pushOwn Sto.empty m)) =
  (Q (AVal.tuple [AVal.agg [AVal.int IntKind.i64 no, AVal.slice (iv l) 1 (Tag.own 0), AVal.int IntKind.i64 nx, AVal.bool false], AVal.bool true]) (Sto.pushOwn Sto.empty m)) := by kernel_rfl
end Go.Proofs.Ytjdjecaclbdhhaa.Yk
end

section
set_option maxRecDepth 100000
set_option maxHeartbeats 0
set_option linter.unusedVariables false
namespace Go.Proofs.Ytjdjecaclbdhhaa.Yj
open Go.AL Go.Proofs
noncomputable def cFits : Cfg := { keep := [0, 2], cut := [] }
noncomputable def cBytes1 : Cfg := { keep := [0, 2], cut := [], orc := ofList [fitsE] }
noncomputable def cIndexB : Cfg := { keep := [0, 1, 4, 5, 7, 8, 9, 16], cut := [(5, [0, 1, 7, 8], [])], orc := ofList [bytes1E] }
noncomputable def cContainsB : Cfg := { keep := [0, 1, 4], cut := [], orc := ofList [indexBE] }
noncomputable def cCloneO : Cfg := { keep := [0, 2, 4], cut := [] }
noncomputable def cBytes : Cfg := { keep := [0, 1, 2, 3, 4, 5, 7, 26, 27, 28, 29, 30], cut := [(13, [5, 27, 28, 29], []), (4, [1, 4], [1]), (20, [5], [])], orc := ofList [cloneOE, containsBE], grow := [(5, 1)] }
noncomputable def cBytesR : Cfg := { keep := [0, 1, 2, 3, 4, 5, 6, 7, 15, 27, 39], cut := [(13, [4, 5, 6], []), (8, [4], []), (24, [5], [])], nmd := [33] }
noncomputable def code_24_ : Code := (Try.f24.body).getD .skip
noncomputable def code_25_ : Code := (Try.f25.body).getD .skip
noncomputable def code_33_ : Code := (Try.f33.body).getD .skip
noncomputable def code_41_ : Code := (Try.f41.body).getD .skip
noncomputable def code_42_ : Code := (Try.f42.body).getD .skip
noncomputable def code_43_ : Code := (Try.f43.body).getD .skip
noncomputable def code_51_ : Code := (Try.f51.body).getD .skip
noncomputable def code_24_1_1 : Code := codeAt code_24_ [1, 1]
noncomputable def code_51_1_1 : Code := codeAt code_51_ [1, 1]
noncomputable def code_25_1_1_1 : Code := codeAt code_25_ [1, 1, 1]
noncomputable def code_24_1_1_1_1_1 : Code := codeAt code_24_ [1, 1, 1, 1, 1]
noncomputable def code_25_1_1_1_1_1 : Code := codeAt code_25_ [1, 1, 1, 1, 1]
noncomputable def code_51_1_0_1_0_0 : Code := codeAt code_51_ [1, 0, 1, 0, 0]
noncomputable def code_24_1_1_1_1_0_1_0_0 : Code := codeAt code_24_ [1, 1, 1, 1, 0, 1, 0, 0]
noncomputable def code_25_1_1_1_1_0_1_0_0 : Code := codeAt code_25_ [1, 1, 1, 1, 0, 1, 0, 0]
theorem fits_r (n : Int) (Q : AVal → Sto → Prop) : vc Try.prog cFits code_43_ (endK Try.prog Try.f43.results.toList Q) (St.start Try.f43.ntmps [.int .i64 n] (Sto.empty)) =
  (brV (hold (decide ((0 : Int) ≤ n))) true (Q (AVal.bool (hold (decide (n < (1099511627776 : Int))))) Sto.empty) (Q (AVal.bool false) Sto.empty)) := by kernel_rfl
theorem fits_i (n : Int) (Q : AVal → Sto → Prop) (ho : OrcOk Try.prog cFits) (h : brV (hold (decide ((0 : Int) ≤ n))) true (Q (AVal.bool (hold (decide (n < (1099511627776 : Int))))) Sto.empty) (Q (AVal.bool false) Sto.empty)) : ACall Try.prog 43 [.int .i64 n] (Sto.empty) Q :=
  ACall.intro hmix Try.func43 (c := code_43_) (by kernel_rfl) cFits ho (Nat.le_of_ble_eq_true (by kernel_rfl)) (by rw [fits_r]; exact h)
theorem bytes1_r (n : Int) (Q : AVal → Sto → Prop) : vc Try.prog cBytes1 code_42_ (endK Try.prog Try.f42.results.toList Q) (St.start Try.f42.ntmps [.int .i64 n] (Sto.empty)) =
  (Q (AVal.bool !hold (Go.Proofs.Ytjdjecaclbdhhaa.fitsN n)) Sto.empty) := by kernel_rfl
theorem bytes1_i (n : Int) (Q : AVal → Sto → Prop) (ho : OrcOk Try.prog cBytes1) (h : Q (AVal.bool !hold (Go.Proofs.Ytjdjecaclbdhhaa.fitsN n)) Sto.empty) : ACall Try.prog 42 [.int .i64 n] (Sto.empty) Q :=
  ACall.intro hmix Try.func42 (c := code_42_) (by kernel_rfl) cBytes1 ho (Nat.le_of_ble_eq_true (by kernel_rfl)) (by rw [bytes1_r]; exact h)
theorem indexB_r (l : List Int) (Q : AVal → Sto → Prop) : vc Try.prog cIndexB code_51_ (endK Try.prog Try.f51.results.toList Q) (St.start Try.f51.ntmps [.slice (iv l) 1 .ro, .func (.func 42) [] []] (Sto.empty)) =
  (loopV (fun s => St.norm [] [0, 1, 7, 8] [] s) (vc Try.prog cIndexB code_51_1_0_1_0_0) (blockK 0 (thenK (vc Try.prog cIndexB code_51_1_1 (endK Try.prog (Array.toList (Go.Func.results Try.f51)) Q)) (endK Try.prog (Array.toList (Go.Func.results Try.f51)) Q))) (St.mk 19 [(0, AVal.slice (iv l) 1 Tag.ro), (1, AVal.func (Go.Fn.func 42) [] []), (7, AVal.int IntKind.i64 (↑(List.length (iv l)) : Int)), (8, AVal.int IntKind.i64 (0 : Int))] [] [] Sto.empty)) := by kernel_rfl
theorem indexB_i (l : List Int) (Q : AVal → Sto → Prop) (ho : OrcOk Try.prog cIndexB) (h : loopV (fun s => St.norm [] [0, 1, 7, 8] [] s) (vc Try.prog cIndexB code_51_1_0_1_0_0) (blockK 0 (thenK (vc Try.prog cIndexB code_51_1_1 (endK Try.prog (Array.toList (Go.Func.results Try.f51)) Q)) (endK Try.prog (Array.toList (Go.Func.results Try.f51)) Q))) (St.mk 19 [(0, AVal.slice (iv l) 1 Tag.ro), (1, AVal.func (Go.Fn.func 42) [] []), (7, AVal.int IntKind.i64 (↑(List.length (iv l)) : Int)), (8, AVal.int IntKind.i64 (0 : Int))] [] [] Sto.empty)) : ACall Try.prog 51 [.slice (iv l) 1 .ro, .func (.func 42) [] []] (Sto.empty) Q :=
  ACall.intro hmix Try.func51 (c := code_51_) (by kernel_rfl) cIndexB ho (Nat.le_of_ble_eq_true (by kernel_rfl)) (by rw [indexB_r]; exact h)
noncomputable def indexBL_S (l : List Int) (n i : Nat) : St := St.mk 19 [(0, .slice (iv l) 1 .ro), (1, .func (.func 42) [] []), (7, .int .i64 (n : Int)), (8, .int .i64 (i : Int))] [] [] (Sto.empty)
noncomputable abbrev indexBL_C : Code := code_51_1_0_1_0_0
theorem indexBL_r (l : List Int) (n i : Nat) (L : St → Prop) (K : Exit → St → Prop) : vc Try.prog cIndexB code_51_1_0_1_0_0 (thenK (fun s => L (St.norm [] [0, 1, 7, 8] [] s)) K) (St.mk 19 [(0, .slice (iv l) 1 .ro), (1, .func (.func 42) [] []), (7, .int .i64 (n : Int)), (8, .int .i64 (i : Int))] [] [] (Sto.empty)) =
  (brV (hold (decide ((↑i : Int) < (↑n : Int)))) true (gb (decide ((0 : Int) ≤ (↑i : Int) ∧ (↑i : Int) < (↑(List.length (iv l)) : Int))) (gb (decide (1 ≤ List.length (elemAt (iv l) (↑i : Int)) ∧ 0 < 1) && etaOk (Sh.int IntKind.i64) (List.getD (elemAt (iv l) (↑i : Int)) 0 AVal.undef)) (brV (hold !Go.Proofs.Ytjdjecaclbdhhaa.fitsN (AVal.intOf (List.getD (elemAt (iv l) (↑i : Int)) 0 AVal.undef))) true (K Exit.ret (St.mk 19 [(0, AVal.slice (iv l) 1 Tag.ro), (1, AVal.func (Go.Fn.func 42) [] []), (7, AVal.int IntKind.i64 (↑n : Int)), (8, AVal.int IntKind.i64 (↑i : Int)), (9, AVal.bool (hold (decide ((↑i : Int) < (↑n : Int))))), (5, AVal.int IntKind.i64 (↑i : Int)), (16, AVal.bool (hold !Go.Proofs.Ytjdjecaclbdhhaa.fitsN (AVal.intOf (List.getD (elemAt (iv l) (↑i : Int)) 0 AVal.undef)))), (4, AVal.int IntKind.i64 (↑i : Int))] [] [] Sto.empty)) (L (St.mk 19 [(0, AVal.slice (iv l) 1 Tag.ro), (1, AVal.func (Go.Fn.func 42) [] []), (7, AVal.int IntKind.i64 (↑n : Int)), (8, AVal.int IntKind.i64 (IntKind.wrap IntKind.i64 ((↑i : Int) + (1 : Int))))] [] [] Sto.empty))))) (K (Exit.exit 0) (St.mk 19 [(0, AVal.slice (iv l) 1 Tag.ro), (1, AVal.func (Go.Fn.func 42) [] []), (7, AVal.int IntKind.i64 (↑n : Int)), (8, AVal.int IntKind.i64 (↑i : Int)), (9, AVal.bool (hold (decide ((↑i : Int) < (↑n : Int)))))] [] [] Sto.empty))) := by kernel_rfl
theorem containsB_r (l : List Int) (Q : AVal → Sto → Prop) : vc Try.prog cContainsB code_41_ (endK Try.prog Try.f41.results.toList Q) (St.start Try.f41.ntmps [.slice (iv l) 1 .ro, .func (.func 42) [] []] (Sto.empty)) =
  (∀ (y : Int), y = Go.Proofs.Ytjdjecaclbdhhaa.findN (List.map AVal.intOf (iv l)) → gb (List.all (iv l) isI64 && Go.Proofs.Ytjdjecaclbdhhaa.lenM (List.length (iv l))) (Q (AVal.bool (hold (decide ((0 : Int) ≤ y)))) Sto.empty)) := by kernel_rfl
theorem containsB_i (l : List Int) (Q : AVal → Sto → Prop) (ho : OrcOk Try.prog cContainsB) (h : ∀ (y : Int), y = Go.Proofs.Ytjdjecaclbdhhaa.findN (List.map AVal.intOf (iv l)) → gb (List.all (iv l) isI64 && Go.Proofs.Ytjdjecaclbdhhaa.lenM (List.length (iv l))) (Q (AVal.bool (hold (decide ((0 : Int) ≤ y)))) Sto.empty)) : ACall Try.prog 41 [.slice (iv l) 1 .ro, .func (.func 42) [] []] (Sto.empty) Q :=
  ACall.intro hmix Try.func41 (c := code_41_) (by kernel_rfl) cContainsB ho (Nat.le_of_ble_eq_true (by kernel_rfl)) (by rw [containsB_r]; exact h)
theorem cloneO_r (σ : Sto) (l : List Int) (Q : AVal → Sto → Prop) : vc Try.prog cCloneO code_33_ (endK Try.prog Try.f33.results.toList Q) (St.start Try.f33.ntmps [.slice (iv l) 1 .ro] (σ)) =
  (∀ (b : Bool), (b = true → List.isEmpty (iv l) = true) → (false = true → b = true) → brV (b == true) true (Q (AVal.slice [] 0 Tag.nil) σ) (gb (decide (decide (true = true ∧ (true = true ∨ 0 < List.length (iv l)) ∧ (0 + List.length (iv l)) * 8 ≤ 140737488355328 ∧ 0 + List.length (iv l) ≤ 9223372036854775807) = true ∧ true = true)) (Q (AVal.slice ([] ++ iv l) 1 (Tag.own (Sto.nown σ))) (Sto.pushOwn σ (0 + List.length (iv l)))))) := by kernel_rfl
theorem cloneO_i (σ : Sto) (l : List Int) (Q : AVal → Sto → Prop) (ho : OrcOk Try.prog cCloneO) (h : ∀ (b : Bool), (b = true → List.isEmpty (iv l) = true) → (false = true → b = true) → brV (b == true) true (Q (AVal.slice [] 0 Tag.nil) σ) (gb (decide (decide (true = true ∧ (true = true ∨ 0 < List.length (iv l)) ∧ (0 + List.length (iv l)) * 8 ≤ 140737488355328 ∧ 0 + List.length (iv l) ≤ 9223372036854775807) = true ∧ true = true)) (Q (AVal.slice ([] ++ iv l) 1 (Tag.own (Sto.nown σ))) (Sto.pushOwn σ (0 + List.length (iv l)))))) : ACall Try.prog 33 [.slice (iv l) 1 .ro] (σ) Q :=
  ACall.intro hmix Try.func33 (c := code_33_) (by kernel_rfl) cCloneO ho (Nat.le_of_ble_eq_true (by kernel_rfl)) (by rw [cloneO_r]; exact h)
theorem bytes_r (c : Ck) (Q : AVal → Sto → Prop) : vc Try.prog cBytes code_24_ (endK Try.prog Try.f24.results.toList Q) (St.start Try.f24.ntmps [ckV c] (Sto.empty)) =
  (gb (List.all (iv (Prod.fst (Prod.snd c))) isI64 && Go.Proofs.Ytjdjecaclbdhhaa.lenM (List.length (iv (Prod.fst (Prod.snd c))))) (gb (decide (decide (true = true ∧ some (List.length (iv (List.map AVal.intOf (iv (Prod.fst (Prod.snd c)))))) = some (List.length (iv (List.map AVal.intOf (iv (Prod.fst (Prod.snd c)))))) ∧ (List.length (iv (List.map AVal.intOf (iv (Prod.fst (Prod.snd c))))) + 1) * 8 ≤ 140737488355328 ∧ List.length (iv (List.map AVal.intOf (iv (Prod.fst (Prod.snd c))))) + 1 ≤ 9223372036854775807) = true ∧ true = true)) (cutV (vc Try.prog cBytes code_24_1_1 (endK Try.prog (Array.toList (Go.Func.results Try.f24)) Q)) (St.mk 53 [(1, AVal.ptr (Oid.loc 1) 0), (4, AVal.slice (iv (List.map AVal.intOf (iv (Prod.fst (Prod.snd c)))) ++ [AVal.int IntKind.i64 (Prod.fst (Prod.snd (Prod.snd c)))]) 1 (Tag.own 0))] [] [(1, AObj.cells [AVal.int IntKind.i64 (Prod.fst c), AVal.slice (iv (Prod.fst (Prod.snd c))) 1 Tag.ro, AVal.int IntKind.i64 (Prod.fst (Prod.snd (Prod.snd c))), AVal.bool (Prod.snd (Prod.snd (Prod.snd c)))])] (Sto.setOwn (Sto.pushOwn Sto.empty (List.length (iv (List.map AVal.intOf (iv (Prod.fst (Prod.snd c))))))) 0 (List.length (iv (List.map AVal.intOf (iv (Prod.fst (Prod.snd c))))) + 1)))))) := by kernel_rfl
theorem bytes_i (c : Ck) (Q : AVal → Sto → Prop) (ho : OrcOk Try.prog cBytes) (h : gb (List.all (iv (Prod.fst (Prod.snd c))) isI64 && Go.Proofs.Ytjdjecaclbdhhaa.lenM (List.length (iv (Prod.fst (Prod.snd c))))) (gb (decide (decide (true = true ∧ some (List.length (iv (List.map AVal.intOf (iv (Prod.fst (Prod.snd c)))))) = some (List.length (iv (List.map AVal.intOf (iv (Prod.fst (Prod.snd c)))))) ∧ (List.length (iv (List.map AVal.intOf (iv (Prod.fst (Prod.snd c))))) + 1) * 8 ≤ 140737488355328 ∧ List.length (iv (List.map AVal.intOf (iv (Prod.fst (Prod.snd c))))) + 1 ≤ 9223372036854775807) = true ∧ true = true)) (cutV (vc Try.prog cBytes code_24_1_1 (endK Try.prog (Array.toList (Go.Func.results Try.f24)) Q)) (St.mk 53 [(1, AVal.ptr (Oid.loc 1) 0), (4, AVal.slice (iv (List.map AVal.intOf (iv (Prod.fst (Prod.snd c)))) ++ [AVal.int IntKind.i64 (Prod.fst (Prod.snd (Prod.snd c)))]) 1 (Tag.own 0))] [] [(1, AObj.cells [AVal.int IntKind.i64 (Prod.fst c), AVal.slice (iv (Prod.fst (Prod.snd c))) 1 Tag.ro, AVal.int IntKind.i64 (Prod.fst (Prod.snd (Prod.snd c))), AVal.bool (Prod.snd (Prod.snd (Prod.snd c)))])] (Sto.setOwn (Sto.pushOwn Sto.empty (List.length (iv (List.map AVal.intOf (iv (Prod.fst (Prod.snd c))))))) 0 (List.length (iv (List.map AVal.intOf (iv (Prod.fst (Prod.snd c))))) + 1)))))) : ACall Try.prog 24 [ckV c] (Sto.empty) Q :=
  ACall.intro hmix Try.func24 (c := code_24_) (by kernel_rfl) cBytes ho (Nat.le_of_ble_eq_true (by kernel_rfl)) (by rw [bytes_r]; exact h)
noncomputable def bytesC_S (c : Ck) (a : List Int) (n : Nat) : St := St.mk 53 [(1, .ptr (.loc 1) 0), (4, .slice (iv a) 1 (.own 0))] [] [(1, .cells (ckC c))] (Sto.pushOwn Sto.empty n)
noncomputable abbrev bytesC_C : Code := code_24_1_1
theorem bytesC_r (c : Ck) (a : List Int) (n : Nat) (K : Exit → St → Prop) : vc Try.prog cBytes code_24_1_1 K (St.mk 53 [(1, .ptr (.loc 1) 0), (4, .slice (iv a) 1 (.own 0))] [] [(1, .cells (ckC c))] (Sto.pushOwn Sto.empty n)) =
  (brV (Prod.snd (Prod.snd (Prod.snd c))) false (brV (hold (decide ((4 : Int) < (↑(List.length (iv (Prod.fst (Prod.snd c)))) : Int)))) false (gb (List.all (iv a) isI64 && Go.Proofs.Ytjdjecaclbdhhaa.lenM (List.length (iv a))) (brV (hold !List.all (List.map AVal.intOf (iv a)) Go.Proofs.Ytjdjecaclbdhhaa.fitsN) true (K Exit.ret (St.mk 53 [(1, AVal.ptr (Oid.loc 1) 0), (4, AVal.slice (iv a) 1 (Tag.own 0)), (26, AVal.bool (hold !List.all (List.map AVal.intOf (iv a)) Go.Proofs.Ytjdjecaclbdhhaa.fitsN)), (2, AVal.str []), (3, AVal.int IntKind.i64 (2 : Int))] [] [(1, AObj.cells [AVal.int IntKind.i64 (Prod.fst c), AVal.slice (iv (Prod.fst (Prod.snd c))) 1 Tag.ro, AVal.int IntKind.i64 (Prod.fst (Prod.snd (Prod.snd c))), AVal.bool (Prod.snd (Prod.snd (Prod.snd c)))])] (Sto.pushOwn Sto.empty n))) (loopV (fun s => St.norm [(5, 1)] [5, 27, 28, 29] [] s) (vc Try.prog cBytes code_24_1_1_1_1_0_1_0_0) (blockK 0 (thenK (fun s => cutV (vc Try.prog cBytes code_24_1_1_1_1_1 K) (St.norm [(5, 1)] [5] [] s)) K)) (St.mk 53 [(5, AVal.slice [] 1 (Tag.own 1)), (27, AVal.slice (iv a) 1 (Tag.own 0)), (28, AVal.int IntKind.i64 (↑(List.length (iv a)) : Int)), (29, AVal.int IntKind.i64 (0 : Int))] [] [] (Sto.pushOwn (Sto.pushOwn Sto.empty n) 0))))) (K Exit.ret (St.mk 53 [(1, AVal.ptr (Oid.loc 1) 0), (4, AVal.slice (iv a) 1 (Tag.own 0)), (26, AVal.bool true), (2, AVal.str []), (3, AVal.int IntKind.i64 (2 : Int))] [] [(1, AObj.cells [AVal.int IntKind.i64 (Prod.fst c), AVal.slice (iv (Prod.fst (Prod.snd c))) 1 Tag.ro, AVal.int IntKind.i64 (Prod.fst (Prod.snd (Prod.snd c))), AVal.bool (Prod.snd (Prod.snd (Prod.snd c)))])] (Sto.pushOwn Sto.empty n)))) (K Exit.ret (St.mk 53 [(1, AVal.ptr (Oid.loc 1) 0), (4, AVal.slice (iv a) 1 (Tag.own 0)), (26, AVal.bool true), (2, AVal.str []), (3, AVal.int IntKind.i64 (2 : Int))] [] [(1, AObj.cells [AVal.int IntKind.i64 (Prod.fst c), AVal.slice (iv (Prod.fst (Prod.snd c))) 1 Tag.ro, AVal.int IntKind.i64 (Prod.fst (Prod.snd (Prod.snd c))), AVal.bool (Prod.snd (Prod.snd (Prod.snd c)))])] (Sto.pushOwn Sto.empty n)))) := by kernel_rfl
noncomputable def bytesL_S (l : List Int) (o : List UInt8) (n i : Nat) (p : Nat) (σ : Sto) : St := St.mk 53 [(5, .slice (bw o) 1 (.own p)), (27, .slice (iv l) 1 (.own 0)), (28, .int .i64 (n : Int)), (29, .int .i64 (i : Int))] [] [] (σ)
noncomputable abbrev bytesL_C : Code := code_24_1_1_1_1_0_1_0_0
theorem bytesL_r (l : List Int) (o : List UInt8) (n i : Nat) (p : Nat) (σ : Sto) (L : St → Prop) (K : Exit → St → Prop) : vc Try.prog cBytes code_24_1_1_1_1_0_1_0_0 (thenK (fun s => L (St.norm [(5, 1)] [5, 27, 28, 29] [] s)) K) (St.mk 53 [(5, .slice (bw o) 1 (.own p)), (27, .slice (iv l) 1 (.own 0)), (28, .int .i64 (n : Int)), (29, .int .i64 (i : Int))] [] [] (σ)) =
  (brV (hold (decide ((↑i : Int) < (↑n : Int)))) true (gb (decide ((0 : Int) ≤ (↑i : Int) ∧ (↑i : Int) < (↑(List.length (iv l)) : Int))) (gb (decide (1 ≤ List.length (elemAt (iv l) (↑i : Int)) ∧ 0 < 1) && etaOk (Sh.int IntKind.i64) (List.getD (elemAt (iv l) (↑i : Int)) 0 AVal.undef)) (gb (decide (decide (true = true ∧ Sto.own σ p = some (List.length (bw o)) ∧ (List.length (bw o) + 5) * 1 ≤ 140737488355328 ∧ List.length (bw o) + 5 ≤ 9223372036854775807) = true ∧ true = true)) (L (St.mk 53 [(5, AVal.slice (bw o ++ [AVal.int IntKind.u8 (IntKind.wrap IntKind.u8 (Int.fdiv (AVal.intOf (List.getD (elemAt (iv l) (↑i : Int)) 0 AVal.undef)) (4294967296 : Int))), AVal.int IntKind.u8 (IntKind.wrap IntKind.u8 (Int.fdiv (AVal.intOf (List.getD (elemAt (iv l) (↑i : Int)) 0 AVal.undef)) (16777216 : Int))), AVal.int IntKind.u8 (IntKind.wrap IntKind.u8 (Int.fdiv (AVal.intOf (List.getD (elemAt (iv l) (↑i : Int)) 0 AVal.undef)) (65536 : Int))), AVal.int IntKind.u8 (IntKind.wrap IntKind.u8 (Int.fdiv (AVal.intOf (List.getD (elemAt (iv l) (↑i : Int)) 0 AVal.undef)) (256 : Int))), AVal.int IntKind.u8 (IntKind.wrap IntKind.u8 (AVal.intOf (List.getD (elemAt (iv l) (↑i : Int)) 0 AVal.undef)))]) 1 (Tag.own p)), (27, AVal.slice (iv l) 1 (Tag.own 0)), (28, AVal.int IntKind.i64 (↑n : Int)), (29, AVal.int IntKind.i64 (IntKind.wrap IntKind.i64 ((↑i : Int) + (1 : Int))))] [] [] (Sto.setOwn σ p (List.length (bw o) + 5))))))) (K (Exit.exit 0) (St.mk 53 [(5, AVal.slice (bw o) 1 (Tag.own p)), (27, AVal.slice (iv l) 1 (Tag.own 0)), (28, AVal.int IntKind.i64 (↑n : Int)), (29, AVal.int IntKind.i64 (↑i : Int)), (30, AVal.bool (hold (decide ((↑i : Int) < (↑n : Int)))))] [] [] σ))) := by kernel_rfl
noncomputable def bytesF_S (o : List UInt8) (p : Nat) (σ : Sto) : St := St.mk 53 [(5, .slice (bw o) 1 (.own p))] [] [] (σ)
noncomputable abbrev bytesF_C : Code := code_24_1_1_1_1_1
theorem bytesF_r (o : List UInt8) (p : Nat) (σ : Sto) (Q : AVal → Sto → Prop) : vc Try.prog cBytes code_24_1_1_1_1_1 (endK Try.prog Try.f24.results.toList Q) (St.mk 53 [(5, .slice (bw o) 1 (.own p))] [] [] (σ)) =
  (gb (decide (List.all (bw o) isU8 = true)) (Q (AVal.tuple [AVal.str (List.map AL.byteOf (bw o)), AVal.int IntKind.i64 (0 : Int)]) σ)) := by kernel_rfl
theorem bytesR_r (c : Ck) (Q : AVal → Sto → Prop) : vc Try.prog cBytesR code_25_ (endK Try.prog Try.f25.results.toList Q) (St.start Try.f25.ntmps [ckV c] (Sto.empty)) =
  (brV (Prod.snd (Prod.snd (Prod.snd c))) false (brV (hold (decide ((4 : Int) < (↑(List.length (iv (Prod.fst (Prod.snd c)))) : Int)))) true (Q (AVal.tuple [AVal.str [], AVal.bool false]) Sto.empty) (gb (decide (decide (true = true ∧ (true = true ∨ 0 < List.length (iv (Prod.fst (Prod.snd c)))) ∧ (0 + List.length (iv (Prod.fst (Prod.snd c)))) * 8 ≤ 140737488355328 ∧ 0 + List.length (iv (Prod.fst (Prod.snd c))) ≤ 9223372036854775807) = true ∧ true = true)) (gb (decide (decide (true = true ∧ some (0 + List.length (iv (Prod.fst (Prod.snd c)))) = some (List.length ([] ++ iv (Prod.fst (Prod.snd c)))) ∧ (List.length ([] ++ iv (Prod.fst (Prod.snd c))) + 1) * 8 ≤ 140737488355328 ∧ List.length ([] ++ iv (Prod.fst (Prod.snd c))) + 1 ≤ 9223372036854775807) = true ∧ true = true)) (cutV (vc Try.prog cBytesR code_25_1_1_1 (endK Try.prog (Array.toList (Go.Func.results Try.f25)) Q)) (St.mk 59 [(4, AVal.slice ([] ++ iv (Prod.fst (Prod.snd c)) ++ [AVal.int IntKind.i64 (Prod.fst (Prod.snd (Prod.snd c)))]) 1 (Tag.own 0))] [] [] (Sto.setOwn (Sto.pushOwn Sto.empty (0 + List.length (iv (Prod.fst (Prod.snd c))))) 0 (List.length ([] ++ iv (Prod.fst (Prod.snd c))) + 1))))))) (Q (AVal.tuple [AVal.str [], AVal.bool false]) Sto.empty)) := by kernel_rfl
theorem bytesR_i (c : Ck) (Q : AVal → Sto → Prop) (ho : OrcOk Try.prog cBytesR) (h : brV (Prod.snd (Prod.snd (Prod.snd c))) false (brV (hold (decide ((4 : Int) < (↑(List.length (iv (Prod.fst (Prod.snd c)))) : Int)))) true (Q (AVal.tuple [AVal.str [], AVal.bool false]) Sto.empty) (gb (decide (decide (true = true ∧ (true = true ∨ 0 < List.length (iv (Prod.fst (Prod.snd c)))) ∧ (0 + List.length (iv (Prod.fst (Prod.snd c)))) * 8 ≤ 140737488355328 ∧ 0 + List.length (iv (Prod.fst (Prod.snd c))) ≤ 9223372036854775807) = true ∧ true = true)) (gb (decide (decide (true = true ∧ some (0 + List.length (iv (Prod.fst (Prod.snd c)))) = some (List.length ([] ++ iv (Prod.fst (Prod.snd c)))) ∧ (List.length ([] ++ iv (Prod.fst (Prod.snd c))) + 1) * 8 ≤ 140737488355328 ∧ List.length ([] ++ iv (Prod.fst (Prod.snd c))) + 1 ≤ 9223372036854775807) = true ∧ true = true)) (cutV (vc Try.prog cBytesR code_25_1_1_1 (endK Try.prog (Array.toList (Go.Func.results Try.f25)) Q)) (St.mk 59 [(4, AVal.slice ([] ++ iv (Prod.fst (Prod.snd c)) ++ [AVal.int IntKind.i64 (Prod.fst (Prod.snd (Prod.snd c)))]) 1 (Tag.own 0))] [] [] (Sto.setOwn (Sto.pushOwn Sto.empty (0 + List.length (iv (Prod.fst (Prod.snd c))))) 0 (List.length ([] ++ iv (Prod.fst (Prod.snd c))) + 1))))))) (Q (AVal.tuple [AVal.str [], AVal.bool false]) Sto.empty)) : ACall Try.prog 25 [ckV c] (Sto.empty) Q :=
  ACall.intro hmix Try.func25 (c := code_25_) (by kernel_rfl) cBytesR ho (Nat.le_of_ble_eq_true (by kernel_rfl)) (by rw [bytesR_r]; exact h)
noncomputable def bytesRC_S (l : List Int) (n : Nat) : St := St.mk 59 [(4, .slice (iv l) 1 (.own 0))] [] [] (Sto.pushOwn Sto.empty n)
noncomputable abbrev bytesRC_C : Code := code_25_1_1_1
theorem bytesRC_r (l : List Int) (n : Nat) (K : Exit → St → Prop) : vc Try.prog cBytesR code_25_1_1_1 K (St.mk 59 [(4, .slice (iv l) 1 (.own 0))] [] [] (Sto.pushOwn Sto.empty n)) =
  (loopV (fun s => St.norm [] [4, 5, 6] [] s) (vc Try.prog cBytesR code_25_1_1_1_1_0_1_0_0) (blockK 0 (thenK (fun s => cutV (vc Try.prog cBytesR code_25_1_1_1_1_1 K) (St.norm [] [5] [] s)) K)) (St.mk 59 [(4, AVal.slice (iv l) 1 (Tag.own 0)), (5, AVal.str []), (6, AVal.int IntKind.i64 (0 : Int))] [] [] (Sto.pushOwn Sto.empty n))) := by kernel_rfl
noncomputable def bytesRL_S (l : List Int) (o : List UInt8) (n i : Nat) : St := St.mk 59 [(4, .slice (iv l) 1 (.own 0)), (5, .str o), (6, .int .i64 (i : Int))] [] [] (Sto.pushOwn Sto.empty n)
noncomputable abbrev bytesRL_C : Code := code_25_1_1_1_1_0_1_0_0
theorem bytesRL_r (l : List Int) (o : List UInt8) (n i : Nat) (L : St → Prop) (K : Exit → St → Prop) : vc Try.prog cBytesR code_25_1_1_1_1_0_1_0_0 (thenK (fun s => L (St.norm [] [4, 5, 6] [] s)) K) (St.mk 59 [(4, .slice (iv l) 1 (.own 0)), (5, .str o), (6, .int .i64 (i : Int))] [] [] (Sto.pushOwn Sto.empty n)) =
  (brV (hold (decide ((↑i : Int) < (↑(List.length (iv l)) : Int)))) true (gb (decide ((0 : Int) ≤ (↑i : Int) ∧ (↑i : Int) < (↑(List.length (iv l)) : Int))) (gb (decide (1 ≤ List.length (elemAt (iv l) (↑i : Int)) ∧ 0 < 1) && etaOk (Sh.int IntKind.i64) (List.getD (elemAt (iv l) (↑i : Int)) 0 AVal.undef)) (∀ (m : Int), m = AVal.intOf (List.getD (elemAt (iv l) (↑i : Int)) 0 AVal.undef) → brV (hold (decide (m < (0 : Int)))) false (brV (hold (decide ((1099511627776 : Int) ≤ m))) true (K Exit.ret (St.mk 59 [(4, AVal.slice (iv l) 1 (Tag.own 0)), (5, AVal.str o), (6, AVal.int IntKind.i64 (↑i : Int)), (27, AVal.bool (hold (decide ((↑i : Int) < (↑(List.length (iv l)) : Int))))), (7, AVal.int IntKind.i64 m), (39, AVal.bool (hold (decide ((1099511627776 : Int) ≤ m)))), (2, AVal.str []), (3, AVal.bool false)] [] [] (Sto.pushOwn Sto.empty n))) (gb (decide (List.length o + 5 ≤ 9223372036854775807)) (L (St.mk 59 [(4, AVal.slice (iv l) 1 (Tag.own 0)), (5, AVal.str (o ++ List.map AL.byteOf [AVal.int IntKind.u8 (IntKind.wrap IntKind.u8 (IntKind.wrap IntKind.i64 (Int.tdiv m (4294967296 : Int)))), AVal.int IntKind.u8 (IntKind.wrap IntKind.u8 (IntKind.wrap IntKind.i64 (Int.tdiv m (16777216 : Int)))), AVal.int IntKind.u8 (IntKind.wrap IntKind.u8 (IntKind.wrap IntKind.i64 (Int.tdiv m (65536 : Int)))), AVal.int IntKind.u8 (IntKind.wrap IntKind.u8 (IntKind.wrap IntKind.i64 (Int.tdiv m (256 : Int)))), AVal.int IntKind.u8 (IntKind.wrap IntKind.u8 m)])), (6, AVal.int IntKind.i64 (IntKind.wrap IntKind.i64 ((↑i : Int) + (1 : Int))))] [] [] (Sto.pushOwn Sto.empty n))))) (K Exit.ret (St.mk 59 [(4, AVal.slice (iv l) 1 (Tag.own 0)), (5, AVal.str o), (6, AVal.int IntKind.i64 (↑i : Int)), (27, AVal.bool (hold (decide ((↑i : Int) < (↑(List.length (iv l)) : Int))))), (7, AVal.int IntKind.i64 m), (39, AVal.bool true), (2, AVal.str []), (3, AVal.bool false)] [] [] (Sto.pushOwn Sto.empty n)))))) (K (Exit.exit 0) (St.mk 59 [(4, AVal.slice (iv l) 1 (Tag.own 0)), (5, AVal.str o), (6, AVal.int IntKind.i64 (↑i : Int)), (27, AVal.bool (hold (decide ((↑i : Int) < (↑(List.length (iv l)) : Int)))))] [] [] (Sto.pushOwn Sto.empty n)))) := by kernel_rfl
noncomputable def bytesRF_S (o : List UInt8) (n : Nat) : St := St.mk 59 [(5, .str o)] [] [] (Sto.pushOwn Sto.empty n)
noncomputable abbrev bytesRF_C : Code := code_25_1_1_1_1_1
theorem bytesRF_r (o : List UInt8) (n : Nat) (Q : AVal → Sto → Prop) : vc Try.prog cBytesR code_25_1_1_1_1_1 (endK Try.prog Try.f25.results.toList Q) (St.mk 59 [(5, .str o)] [] [] (Sto.pushOwn Sto.empty n)) =
  (Q (AVal.tuple [AVal.str o, AVal.bool true]) (Sto.pushOwn Sto.empty n)) := by kernel_rfl
end Go.Proofs.Ytjdjecaclbdhhaa.Yj
end

section
set_option maxRecDepth 100000
set_option maxHeartbeats 0
set_option linter.unusedVariables false
namespace Go.Proofs.Ytjdjecaclbdhhaa
open Go.AL Go.Proofs
noncomputable def cNan : Cfg := { keep := [0, 2], cut := [] }
noncomputable def cNan2 : Cfg := { keep := [0, 2], cut := [] }
noncomputable def cLess : Cfg := { keep := [0, 1, 4], cut := [], orc := ofList [nanE] }
noncomputable def cBs : Cfg := { keep := [0, 1, 4, 5, 6, 7, 8, 9, 15, 27], cut := [(7, [0, 1, 6, 7, 8], []), (16, [0, 1, 6, 7], [])], orc := ofList [lessE, nan2E] }
noncomputable def cIndexI : Cfg := { keep := [0, 1, 4, 5, 7, 8, 9, 16], cut := [(5, [0, 1, 7, 8], [])] }
noncomputable def cContainsI : Cfg := { keep := [0, 1, 4], cut := [], orc := ofList [indexIE] }
noncomputable def cRight : Cfg := { keep := [0, 2, 3, 4, 5, 6, 7, 9, 11, 12, 13, 14, 22, 71, 76, 77, 78, 79, 84], cut := [(7, [0, 3, 4, 11, 12, 13], [10]), (25, [0, 3, 4, 11, 12, 13, 76, 77, 78], [10]), (12, [0, 3, 4, 5, 6, 7, 11, 12, 13], [6, 10]), (14, [0, 3, 4, 5, 6, 7, 11, 12, 13, 22], [6, 10]), (16, [0, 3, 4, 5, 6, 7, 11, 12, 13], [6, 10]), (36, [0, 3, 4, 11, 12, 13], [10]), (38, [], [10])], nmd := [25] }
noncomputable def cIds : Cfg := { keep := [0, 2, 3, 5, 6, 7, 8, 9], cut := [(7, [3, 6, 7, 8], []), (14, [3], [])], grow := [(3, 1)] }
noncomputable def cPlace : Cfg := { keep := [0, 1, 4, 5, 6, 7, 8, 9, 10, 11, 26], cut := [(7, [1, 5, 8, 9, 10], []), (14, [1, 5, 8, 9, 10], []), (16, [5], [])] }
noncomputable def cFresh1 : Cfg := { keep := [0, 1, 2, 3], cut := [] }
noncomputable def cIndexF : Cfg := { keep := [0, 1, 4, 5, 7, 8, 9, 16], cut := [(5, [0, 1, 7, 8], [])], orc := ofList [fresh1E] }
noncomputable def cContainsF : Cfg := { keep := [0, 1, 4], cut := [], orc := ofList [indexFE] }
noncomputable def cFresh : Cfg := { keep := [0, 2, 3, 6], cut := [(5, [0, 3], [3]), (8, [3], [3])], out := [3], orc := ofList [containsFE] }
noncomputable def code_11_ : Code := (Try.f11.body).getD .skip
noncomputable def code_13_ : Code := (Try.f13.body).getD .skip
noncomputable def code_27_ : Code := (Try.f27.body).getD .skip
noncomputable def code_29_ : Code := (Try.f29.body).getD .skip
noncomputable def code_30_ : Code := (Try.f30.body).getD .skip
noncomputable def code_32_ : Code := (Try.f32.body).getD .skip
noncomputable def code_44_ : Code := (Try.f44.body).getD .skip
noncomputable def code_45_ : Code := (Try.f45.body).getD .skip
noncomputable def code_46_ : Code := (Try.f46.body).getD .skip
noncomputable def code_49_ : Code := (Try.f49.body).getD .skip
noncomputable def code_50_ : Code := (Try.f50.body).getD .skip
noncomputable def code_53_ : Code := (Try.f53.body).getD .skip
noncomputable def code_55_ : Code := (Try.f55.body).getD .skip
noncomputable def code_44_1_1 : Code := codeAt code_44_ [1, 1]
noncomputable def code_55_1_1 : Code := codeAt code_55_ [1, 1]
noncomputable def code_11_1_1_1 : Code := codeAt code_11_ [1, 1, 1]
noncomputable def code_13_1_1_1 : Code := codeAt code_13_ [1, 1, 1]
noncomputable def code_29_1_1_1 : Code := codeAt code_29_ [1, 1, 1]
noncomputable def code_32_1_1_1 : Code := codeAt code_32_ [1, 1, 1]
noncomputable def code_30_1_1_1_1 : Code := codeAt code_30_ [1, 1, 1, 1]
noncomputable def code_32_1_1_0_0_0 : Code := codeAt code_32_ [1, 1, 0, 0, 0]
noncomputable def code_44_1_0_1_0_0 : Code := codeAt code_44_ [1, 0, 1, 0, 0]
noncomputable def code_55_1_0_1_0_0 : Code := codeAt code_55_ [1, 0, 1, 0, 0]
noncomputable def code_11_1_1_0_1_0_0 : Code := codeAt code_11_ [1, 1, 0, 1, 0, 0]
noncomputable def code_13_1_1_0_1_0_0 : Code := codeAt code_13_ [1, 1, 0, 1, 0, 0]
noncomputable def code_29_1_1_0_1_0_0 : Code := codeAt code_29_ [1, 1, 0, 1, 0, 0]
noncomputable def code_30_1_1_1_0_0_0 : Code := codeAt code_30_ [1, 1, 1, 0, 0, 0]
noncomputable def code_11_1_1_0_1_0_0_1_1_1 : Code := codeAt code_11_ [1, 1, 0, 1, 0, 0, 1, 1, 1]
noncomputable def code_29_1_1_0_1_0_0_1_1_1 : Code := codeAt code_29_ [1, 1, 0, 1, 0, 0, 1, 1, 1]
noncomputable def code_11_1_1_0_1_0_0_1_1_0_0_1_1 : Code := codeAt code_11_ [1, 1, 0, 1, 0, 0, 1, 1, 0, 0, 1, 1]
noncomputable def code_11_1_1_0_1_0_0_1_1_0_0_1_1_1 : Code := codeAt code_11_ [1, 1, 0, 1, 0, 0, 1, 1, 0, 0, 1, 1, 1]
noncomputable def code_11_1_1_0_1_0_0_1_1_0_0_1_1_0_1 : Code := codeAt code_11_ [1, 1, 0, 1, 0, 0, 1, 1, 0, 0, 1, 1, 0, 1]
noncomputable def code_11_1_1_0_1_0_0_1_1_0_0_1_1_1_1_1_1_0_0 : Code := codeAt code_11_ [1, 1, 0, 1, 0, 0, 1, 1, 0, 0, 1, 1, 1, 1, 1, 1, 0, 0]
theorem nan_r (a : Int) (Q : AVal → Sto → Prop) : vc Try.prog cNan code_53_ (endK Try.prog Try.f53.results.toList Q) (St.start Try.f53.ntmps [.int .i64 a] (Sto.empty)) =
  (Q (AVal.bool (hold (a != a))) Sto.empty) := by kernel_rfl
theorem nan_i (a : Int) (Q : AVal → Sto → Prop) (ho : OrcOk Try.prog cNan) (h : Q (AVal.bool (hold (a != a))) Sto.empty) : ACall Try.prog 53 [.int .i64 a] (Sto.empty) Q :=
  ACall.intro hmix Try.func53 (c := code_53_) (by kernel_rfl) cNan ho (Nat.le_of_ble_eq_true (by kernel_rfl)) (by rw [nan_r]; exact h)
theorem nan2_r (a : Int) (Q : AVal → Sto → Prop) : vc Try.prog cNan2 code_46_ (endK Try.prog Try.f46.results.toList Q) (St.start Try.f46.ntmps [.int .i64 a] (Sto.empty)) =
  (Q (AVal.bool (hold (a != a))) Sto.empty) := by kernel_rfl
theorem nan2_i (a : Int) (Q : AVal → Sto → Prop) (ho : OrcOk Try.prog cNan2) (h : Q (AVal.bool (hold (a != a))) Sto.empty) : ACall Try.prog 46 [.int .i64 a] (Sto.empty) Q :=
  ACall.intro hmix Try.func46 (c := code_46_) (by kernel_rfl) cNan2 ho (Nat.le_of_ble_eq_true (by kernel_rfl)) (by rw [nan2_r]; exact h)
theorem less_r (a b : Int) (Q : AVal → Sto → Prop) : vc Try.prog cLess code_45_ (endK Try.prog Try.f45.results.toList Q) (St.start Try.f45.ntmps [.int .i64 a, .int .i64 b] (Sto.empty)) =
  (Q (AVal.bool (hold (decide (a < b)))) Sto.empty) := by kernel_rfl
theorem less_i (a b : Int) (Q : AVal → Sto → Prop) (ho : OrcOk Try.prog cLess) (h : Q (AVal.bool (hold (decide (a < b)))) Sto.empty) : ACall Try.prog 45 [.int .i64 a, .int .i64 b] (Sto.empty) Q :=
  ACall.intro hmix Try.func45 (c := code_45_) (by kernel_rfl) cLess ho (Nat.le_of_ble_eq_true (by kernel_rfl)) (by rw [less_r]; exact h)
theorem bs_r (l : List Int) (s : Int) (Q : AVal → Sto → Prop) : vc Try.prog cBs code_30_ (endK Try.prog Try.f30.results.toList Q) (St.start Try.f30.ntmps [.slice (iv l) 1 .ro, .int .i64 s] (Sto.empty)) =
  (loopV (fun s => St.norm [] [0, 1, 6, 7, 8] [] s) (vc Try.prog cBs code_30_1_1_1_0_0_0) (blockK 0 (thenK (fun s => cutV (vc Try.prog cBs code_30_1_1_1_1 (endK Try.prog (Array.toList (Go.Func.results Try.f30)) Q)) (St.norm [] [0, 1, 6, 7] [] s)) (endK Try.prog (Array.toList (Go.Func.results Try.f30)) Q))) (St.mk 54 [(0, AVal.slice (iv l) 1 Tag.ro), (1, AVal.int IntKind.i64 s), (6, AVal.int IntKind.i64 (↑(List.length (iv l)) : Int)), (7, AVal.int IntKind.i64 (0 : Int)), (8, AVal.int IntKind.i64 (↑(List.length (iv l)) : Int))] [] [] Sto.empty)) := by kernel_rfl
theorem bs_i (l : List Int) (s : Int) (Q : AVal → Sto → Prop) (ho : OrcOk Try.prog cBs) (h : loopV (fun s => St.norm [] [0, 1, 6, 7, 8] [] s) (vc Try.prog cBs code_30_1_1_1_0_0_0) (blockK 0 (thenK (fun s => cutV (vc Try.prog cBs code_30_1_1_1_1 (endK Try.prog (Array.toList (Go.Func.results Try.f30)) Q)) (St.norm [] [0, 1, 6, 7] [] s)) (endK Try.prog (Array.toList (Go.Func.results Try.f30)) Q))) (St.mk 54 [(0, AVal.slice (iv l) 1 Tag.ro), (1, AVal.int IntKind.i64 s), (6, AVal.int IntKind.i64 (↑(List.length (iv l)) : Int)), (7, AVal.int IntKind.i64 (0 : Int)), (8, AVal.int IntKind.i64 (↑(List.length (iv l)) : Int))] [] [] Sto.empty)) : ACall Try.prog 30 [.slice (iv l) 1 .ro, .int .i64 s] (Sto.empty) Q :=
  ACall.intro hmix Try.func30 (c := code_30_) (by kernel_rfl) cBs ho (Nat.le_of_ble_eq_true (by kernel_rfl)) (by rw [bs_r]; exact h)
noncomputable def bsL_S (l : List Int) (s : Int) (n i j : Nat) : St := St.mk 54 [(0, .slice (iv l) 1 .ro), (1, .int .i64 s), (6, .int .i64 (n : Int)), (7, .int .i64 (i : Int)), (8, .int .i64 (j : Int))] [] [] (Sto.empty)
noncomputable abbrev bsL_C : Code := code_30_1_1_1_0_0_0
theorem bsL_r (l : List Int) (s : Int) (n i j : Nat) (L : St → Prop) (K : Exit → St → Prop) : vc Try.prog cBs code_30_1_1_1_0_0_0 (thenK (fun s => L (St.norm [] [0, 1, 6, 7, 8] [] s)) K) (St.mk 54 [(0, .slice (iv l) 1 .ro), (1, .int .i64 s), (6, .int .i64 (n : Int)), (7, .int .i64 (i : Int)), (8, .int .i64 (j : Int))] [] [] (Sto.empty)) =
  (brV (hold (decide ((↑i : Int) < (↑j : Int)))) true (gb (decide ((0 : Int) ≤ IntKind.wrap IntKind.i64 (Int.fdiv (IntKind.wrap IntKind.u64 (IntKind.wrap IntKind.i64 ((↑i : Int) + (↑j : Int)))) (2 : Int)) ∧ IntKind.wrap IntKind.i64 (Int.fdiv (IntKind.wrap IntKind.u64 (IntKind.wrap IntKind.i64 ((↑i : Int) + (↑j : Int)))) (2 : Int)) < (↑(List.length (iv l)) : Int))) (gb (decide (1 ≤ List.length (elemAt (iv l) (IntKind.wrap IntKind.i64 (Int.fdiv (IntKind.wrap IntKind.u64 (IntKind.wrap IntKind.i64 ((↑i : Int) + (↑j : Int)))) (2 : Int)))) ∧ 0 < 1) && etaOk (Sh.int IntKind.i64) (List.getD (elemAt (iv l) (IntKind.wrap IntKind.i64 (Int.fdiv (IntKind.wrap IntKind.u64 (IntKind.wrap IntKind.i64 ((↑i : Int) + (↑j : Int)))) (2 : Int)))) 0 AVal.undef)) (brV (hold (decide (AVal.intOf (List.getD (elemAt (iv l) (IntKind.wrap IntKind.i64 (Int.fdiv (IntKind.wrap IntKind.u64 (IntKind.wrap IntKind.i64 ((↑i : Int) + (↑j : Int)))) (2 : Int)))) 0 AVal.undef) < s))) true (L (St.mk 54 [(0, AVal.slice (iv l) 1 Tag.ro), (1, AVal.int IntKind.i64 s), (6, AVal.int IntKind.i64 (↑n : Int)), (7, AVal.int IntKind.i64 (IntKind.wrap IntKind.i64 (IntKind.wrap IntKind.i64 (Int.fdiv (IntKind.wrap IntKind.u64 (IntKind.wrap IntKind.i64 ((↑i : Int) + (↑j : Int)))) (2 : Int)) + (1 : Int)))), (8, AVal.int IntKind.i64 (↑j : Int))] [] [] Sto.empty)) (L (St.mk 54 [(0, AVal.slice (iv l) 1 Tag.ro), (1, AVal.int IntKind.i64 s), (6, AVal.int IntKind.i64 (↑n : Int)), (7, AVal.int IntKind.i64 (↑i : Int)), (8, AVal.int IntKind.i64 (IntKind.wrap IntKind.i64 (Int.fdiv (IntKind.wrap IntKind.u64 (IntKind.wrap IntKind.i64 ((↑i : Int) + (↑j : Int)))) (2 : Int))))] [] [] Sto.empty))))) (K (Exit.exit 0) (St.mk 54 [(0, AVal.slice (iv l) 1 Tag.ro), (1, AVal.int IntKind.i64 s), (6, AVal.int IntKind.i64 (↑n : Int)), (7, AVal.int IntKind.i64 (↑i : Int)), (8, AVal.int IntKind.i64 (↑j : Int)), (15, AVal.bool (hold (decide ((↑i : Int) < (↑j : Int)))))] [] [] Sto.empty))) := by kernel_rfl
noncomputable def bsF_S (l : List Int) (s : Int) (n i : Nat) : St := St.mk 54 [(0, .slice (iv l) 1 .ro), (1, .int .i64 s), (6, .int .i64 (n : Int)), (7, .int .i64 (i : Int))] [] [] (Sto.empty)
noncomputable abbrev bsF_C : Code := code_30_1_1_1_1
theorem bsF_r (l : List Int) (s : Int) (n i : Nat) (Q : AVal → Sto → Prop) : vc Try.prog cBs code_30_1_1_1_1 (endK Try.prog Try.f30.results.toList Q) (St.mk 54 [(0, .slice (iv l) 1 .ro), (1, .int .i64 s), (6, .int .i64 (n : Int)), (7, .int .i64 (i : Int))] [] [] (Sto.empty)) =
  (brV (hold (decide ((↑i : Int) < (↑n : Int)))) true (gb (decide ((0 : Int) ≤ (↑i : Int) ∧ (↑i : Int) < (↑(List.length (iv l)) : Int))) (gb (decide (1 ≤ List.length (elemAt (iv l) (↑i : Int)) ∧ 0 < 1) && etaOk (Sh.int IntKind.i64) (List.getD (elemAt (iv l) (↑i : Int)) 0 AVal.undef)) (brV (hold (AVal.intOf (List.getD (elemAt (iv l) (↑i : Int)) 0 AVal.undef) == s)) false (gb (decide ((0 : Int) ≤ (↑i : Int) ∧ (↑i : Int) < (↑(List.length (iv l)) : Int))) (gb (decide (1 ≤ List.length (elemAt (iv l) (↑i : Int)) ∧ 0 < 1) && etaOk (Sh.int IntKind.i64) (List.getD (elemAt (iv l) (↑i : Int)) 0 AVal.undef)) (Q (AVal.tuple [AVal.int IntKind.i64 (↑i : Int), AVal.bool false]) Sto.empty))) (Q (AVal.tuple [AVal.int IntKind.i64 (↑i : Int), AVal.bool true]) Sto.empty)))) (Q (AVal.tuple [AVal.int IntKind.i64 (↑i : Int), AVal.bool false]) Sto.empty)) := by kernel_rfl
theorem indexI_r (l : List Int) (n : Int) (Q : AVal → Sto → Prop) : vc Try.prog cIndexI code_44_ (endK Try.prog Try.f44.results.toList Q) (St.start Try.f44.ntmps [.slice (iv l) 1 .ro, .int .i64 n] (Sto.empty)) =
  (loopV (fun s => St.norm [] [0, 1, 7, 8] [] s) (vc Try.prog cIndexI code_44_1_0_1_0_0) (blockK 0 (thenK (vc Try.prog cIndexI code_44_1_1 (endK Try.prog (Array.toList (Go.Func.results Try.f44)) Q)) (endK Try.prog (Array.toList (Go.Func.results Try.f44)) Q))) (St.mk 19 [(0, AVal.slice (iv l) 1 Tag.ro), (1, AVal.int IntKind.i64 n), (7, AVal.int IntKind.i64 (↑(List.length (iv l)) : Int)), (8, AVal.int IntKind.i64 (0 : Int))] [] [] Sto.empty)) := by kernel_rfl
theorem indexI_i (l : List Int) (n : Int) (Q : AVal → Sto → Prop) (ho : OrcOk Try.prog cIndexI) (h : loopV (fun s => St.norm [] [0, 1, 7, 8] [] s) (vc Try.prog cIndexI code_44_1_0_1_0_0) (blockK 0 (thenK (vc Try.prog cIndexI code_44_1_1 (endK Try.prog (Array.toList (Go.Func.results Try.f44)) Q)) (endK Try.prog (Array.toList (Go.Func.results Try.f44)) Q))) (St.mk 19 [(0, AVal.slice (iv l) 1 Tag.ro), (1, AVal.int IntKind.i64 n), (7, AVal.int IntKind.i64 (↑(List.length (iv l)) : Int)), (8, AVal.int IntKind.i64 (0 : Int))] [] [] Sto.empty)) : ACall Try.prog 44 [.slice (iv l) 1 .ro, .int .i64 n] (Sto.empty) Q :=
  ACall.intro hmix Try.func44 (c := code_44_) (by kernel_rfl) cIndexI ho (Nat.le_of_ble_eq_true (by kernel_rfl)) (by rw [indexI_r]; exact h)
noncomputable def indexIL_S (l : List Int) (x : Int) (n i : Nat) : St := St.mk 19 [(0, .slice (iv l) 1 .ro), (1, .int .i64 x), (7, .int .i64 (n : Int)), (8, .int .i64 (i : Int))] [] [] (Sto.empty)
noncomputable abbrev indexIL_C : Code := code_44_1_0_1_0_0
theorem indexIL_r (l : List Int) (x : Int) (n i : Nat) (L : St → Prop) (K : Exit → St → Prop) : vc Try.prog cIndexI code_44_1_0_1_0_0 (thenK (fun s => L (St.norm [] [0, 1, 7, 8] [] s)) K) (St.mk 19 [(0, .slice (iv l) 1 .ro), (1, .int .i64 x), (7, .int .i64 (n : Int)), (8, .int .i64 (i : Int))] [] [] (Sto.empty)) =
  (brV (hold (decide ((↑i : Int) < (↑n : Int)))) true (gb (decide ((0 : Int) ≤ (↑i : Int) ∧ (↑i : Int) < (↑(List.length (iv l)) : Int))) (gb (decide (1 ≤ List.length (elemAt (iv l) (↑i : Int)) ∧ 0 < 1) && etaOk (Sh.int IntKind.i64) (List.getD (elemAt (iv l) (↑i : Int)) 0 AVal.undef)) (brV (hold (x == AVal.intOf (List.getD (elemAt (iv l) (↑i : Int)) 0 AVal.undef))) true (K Exit.ret (St.mk 19 [(0, AVal.slice (iv l) 1 Tag.ro), (1, AVal.int IntKind.i64 x), (7, AVal.int IntKind.i64 (↑n : Int)), (8, AVal.int IntKind.i64 (↑i : Int)), (9, AVal.bool (hold (decide ((↑i : Int) < (↑n : Int))))), (5, AVal.int IntKind.i64 (↑i : Int)), (16, AVal.bool (hold (x == AVal.intOf (List.getD (elemAt (iv l) (↑i : Int)) 0 AVal.undef)))), (4, AVal.int IntKind.i64 (↑i : Int))] [] [] Sto.empty)) (L (St.mk 19 [(0, AVal.slice (iv l) 1 Tag.ro), (1, AVal.int IntKind.i64 x), (7, AVal.int IntKind.i64 (↑n : Int)), (8, AVal.int IntKind.i64 (IntKind.wrap IntKind.i64 ((↑i : Int) + (1 : Int))))] [] [] Sto.empty))))) (K (Exit.exit 0) (St.mk 19 [(0, AVal.slice (iv l) 1 Tag.ro), (1, AVal.int IntKind.i64 x), (7, AVal.int IntKind.i64 (↑n : Int)), (8, AVal.int IntKind.i64 (↑i : Int)), (9, AVal.bool (hold (decide ((↑i : Int) < (↑n : Int)))))] [] [] Sto.empty))) := by kernel_rfl
theorem containsI_r (l : List Int) (n : Int) (Q : AVal → Sto → Prop) : vc Try.prog cContainsI code_27_ (endK Try.prog Try.f27.results.toList Q) (St.start Try.f27.ntmps [.slice (iv l) 1 .ro, .int .i64 n] (Sto.empty)) =
  (∀ (y : Bool), y = List.contains (List.map AVal.intOf (iv l)) n → ∀ (y_1 : Int), (y_1 = if y = true then (↑(List.idxOf n (List.map AVal.intOf (iv l))) : Int) else (-1 : Int)) → gb (List.all (iv l) isI64 && lenOk (List.length (iv l))) (Q (AVal.bool (hold (decide ((0 : Int) ≤ y_1)))) Sto.empty)) := by kernel_rfl
theorem containsI_i (l : List Int) (n : Int) (Q : AVal → Sto → Prop) (ho : OrcOk Try.prog cContainsI) (h : ∀ (y : Bool), y = List.contains (List.map AVal.intOf (iv l)) n → ∀ (y_1 : Int), (y_1 = if y = true then (↑(List.idxOf n (List.map AVal.intOf (iv l))) : Int) else (-1 : Int)) → gb (List.all (iv l) isI64 && lenOk (List.length (iv l))) (Q (AVal.bool (hold (decide ((0 : Int) ≤ y_1)))) Sto.empty)) : ACall Try.prog 27 [.slice (iv l) 1 .ro, .int .i64 n] (Sto.empty) Q :=
  ACall.intro hmix Try.func27 (c := code_27_) (by kernel_rfl) cContainsI ho (Nat.le_of_ble_eq_true (by kernel_rfl)) (by rw [containsI_r]; exact h)
theorem right_r (l : List Ck) (Q : AVal → Sto → Prop) : vc Try.prog cRight code_11_ (endK Try.prog Try.f11.results.toList Q) (St.start Try.f11.ntmps [.slice (ckv l) 4 .ro] (Sto.empty)) =
  (loopV (fun s => St.norm [] [0, 3, 4, 11, 12, 13] [10] s) (vc Try.prog cRight code_11_1_1_0_1_0_0) (blockK 0 (thenK (fun s => cutV (vc Try.prog cRight code_11_1_1_1 (endK Try.prog (Array.toList (Go.Func.results Try.f11)) Q)) (St.norm [] [] [10] s)) (endK Try.prog (Array.toList (Go.Func.results Try.f11)) Q))) (St.mk 88 [(0, AVal.slice (ckv l) 4 Tag.ro), (3, AVal.int IntKind.i64 (-1 : Int)), (4, AVal.map (Oid.loc 10)), (11, AVal.slice (ckv l) 4 Tag.ro), (12, AVal.int IntKind.i64 (↑(List.length (ckv l)) : Int)), (13, AVal.int IntKind.i64 (0 : Int))] [] [(10, AObj.map [])] Sto.empty)) := by kernel_rfl
theorem right_i (l : List Ck) (Q : AVal → Sto → Prop) (ho : OrcOk Try.prog cRight) (h : loopV (fun s => St.norm [] [0, 3, 4, 11, 12, 13] [10] s) (vc Try.prog cRight code_11_1_1_0_1_0_0) (blockK 0 (thenK (fun s => cutV (vc Try.prog cRight code_11_1_1_1 (endK Try.prog (Array.toList (Go.Func.results Try.f11)) Q)) (St.norm [] [] [10] s)) (endK Try.prog (Array.toList (Go.Func.results Try.f11)) Q))) (St.mk 88 [(0, AVal.slice (ckv l) 4 Tag.ro), (3, AVal.int IntKind.i64 (-1 : Int)), (4, AVal.map (Oid.loc 10)), (11, AVal.slice (ckv l) 4 Tag.ro), (12, AVal.int IntKind.i64 (↑(List.length (ckv l)) : Int)), (13, AVal.int IntKind.i64 (0 : Int))] [] [(10, AObj.map [])] Sto.empty)) : ACall Try.prog 11 [.slice (ckv l) 4 .ro] (Sto.empty) Q :=
  ACall.intro hmix Try.func11 (c := code_11_) (by kernel_rfl) cRight ho (Nat.le_of_ble_eq_true (by kernel_rfl)) (by rw [right_r]; exact h)
noncomputable def rightL_S (l : List Ck) (la : Int) (m : List (Int × Bool)) (n i : Nat) : St := St.mk 88 [(0, .slice (ckv l) 4 .ro), (3, .int .i64 la), (4, .map (.loc 10)), (11, .slice (ckv l) 4 .ro), (12, .int .i64 (n : Int)), (13, .int .i64 (i : Int))] [] [(10, .map (mb m))] (Sto.empty)
noncomputable abbrev rightL_C : Code := code_11_1_1_0_1_0_0
theorem rightL_r (l : List Ck) (la : Int) (m : List (Int × Bool)) (n i : Nat) (L : St → Prop) (K : Exit → St → Prop) : vc Try.prog cRight code_11_1_1_0_1_0_0 (thenK (fun s => L (St.norm [] [0, 3, 4, 11, 12, 13] [10] s)) K) (St.mk 88 [(0, .slice (ckv l) 4 .ro), (3, .int .i64 la), (4, .map (.loc 10)), (11, .slice (ckv l) 4 .ro), (12, .int .i64 (n : Int)), (13, .int .i64 (i : Int))] [] [(10, .map (mb m))] (Sto.empty)) =
  (brV (hold (decide ((↑i : Int) < (↑n : Int)))) true (gb (decide ((0 : Int) ≤ (↑i : Int) ∧ (↑i : Int) < (↑(List.length (ckv l)) : Int))) (gb (decide (4 ≤ List.length (elemAt (ckv l) (↑i : Int)) ∧ 0 < 4) && (etaOk (Sh.int IntKind.i64) (List.getD (elemAt (ckv l) (↑i : Int)) 0 AVal.undef) && (sliceOk 1 (List.getD (elemAt (ckv l) (↑i : Int)) 1 AVal.undef) && (etaOk (Sh.int IntKind.i64) (List.getD (elemAt (ckv l) (↑i : Int)) 2 AVal.undef) && (etaOk Sh.bool (List.getD (elemAt (ckv l) (↑i : Int)) 3 AVal.undef) && true))))) (gb (decide (((10 == 6 || AObj.noRef 6 (AObj.map (mb m))) && true) = true ∧ true = true ∧ 6 < 88)) (cutV (vc Try.prog cRight code_11_1_1_0_1_0_0_1_1_0_0_1_1 (blockK 1 (thenK (fun s => cutV (vc Try.prog cRight code_11_1_1_0_1_0_0_1_1_1 (thenK (fun s => L (St.norm [] [0, 3, 4, 11, 12, 13] [10] s)) K)) (St.norm [] [0, 3, 4, 11, 12, 13] [10] s)) (thenK (fun s => L (St.norm [] [0, 3, 4, 11, 12, 13] [10] s)) K)))) (St.mk 88 [(0, AVal.slice (ckv l) 4 Tag.ro), (3, AVal.int IntKind.i64 la), (4, AVal.map (Oid.loc 10)), (5, AVal.int IntKind.i64 (↑i : Int)), (6, AVal.ptr (Oid.loc 6) 0), (7, AVal.int IntKind.i64 (0 : Int)), (11, AVal.slice (ckv l) 4 Tag.ro), (12, AVal.int IntKind.i64 (↑n : Int)), (13, AVal.int IntKind.i64 (↑i : Int))] [] [(6, AObj.cells [AVal.int IntKind.i64 (AVal.intOf (List.getD (elemAt (ckv l) (↑i : Int)) 0 AVal.undef)), AVal.slice (AVal.elems (List.getD (elemAt (ckv l) (↑i : Int)) 1 AVal.undef)) 1 Tag.ro, AVal.int IntKind.i64 (AVal.intOf (List.getD (elemAt (ckv l) (↑i : Int)) 2 AVal.undef)), AVal.bool (AVal.boolOf (List.getD (elemAt (ckv l) (↑i : Int)) 3 AVal.undef))]), (10, AObj.map (mb m))] Sto.empty))))) (K (Exit.exit 0) (St.mk 88 [(0, AVal.slice (ckv l) 4 Tag.ro), (3, AVal.int IntKind.i64 la), (4, AVal.map (Oid.loc 10)), (11, AVal.slice (ckv l) 4 Tag.ro), (12, AVal.int IntKind.i64 (↑n : Int)), (13, AVal.int IntKind.i64 (↑i : Int)), (14, AVal.bool (hold (decide ((↑i : Int) < (↑n : Int)))))] [] [(10, AObj.map (mb m))] Sto.empty))) := by kernel_rfl
noncomputable def rightB_S (l : List Ck) (la : Int) (m : List (Int × Bool)) (n i : Nat) (c : Ck) (nx : Int) : St := St.mk 88 [(0, .slice (ckv l) 4 .ro), (3, .int .i64 la), (4, .map (.loc 10)), (5, .int .i64 (i : Int)), (6, .ptr (.loc 6) 0), (7, .int .i64 nx), (11, .slice (ckv l) 4 .ro), (12, .int .i64 (n : Int)), (13, .int .i64 (i : Int))] [] [(6, .cells (ckC c)), (10, .map (mb m))] (Sto.empty)
noncomputable abbrev rightB_C : Code := code_11_1_1_0_1_0_0_1_1_0_0_1_1
theorem rightB_r (l : List Ck) (la : Int) (m : List (Int × Bool)) (n i : Nat) (c : Ck) (nx : Int) (K : Exit → St → Prop) : vc Try.prog cRight code_11_1_1_0_1_0_0_1_1_0_0_1_1 K (St.mk 88 [(0, .slice (ckv l) 4 .ro), (3, .int .i64 la), (4, .map (.loc 10)), (5, .int .i64 (i : Int)), (6, .ptr (.loc 6) 0), (7, .int .i64 nx), (11, .slice (ckv l) 4 .ro), (12, .int .i64 (n : Int)), (13, .int .i64 (i : Int))] [] [(6, .cells (ckC c)), (10, .map (mb m))] (Sto.empty)) =
  (cutV (vc Try.prog cRight code_11_1_1_0_1_0_0_1_1_0_0_1_1_0_1 (thenK (fun s => cutV (vc Try.prog cRight code_11_1_1_0_1_0_0_1_1_0_0_1_1_1 K) (St.norm [] [0, 3, 4, 5, 6, 7, 11, 12, 13] [6, 10] s)) K)) (St.mk 88 [(0, AVal.slice (ckv l) 4 Tag.ro), (3, AVal.int IntKind.i64 la), (4, AVal.map (Oid.loc 10)), (5, AVal.int IntKind.i64 (↑i : Int)), (6, AVal.ptr (Oid.loc 6) 0), (7, AVal.int IntKind.i64 nx), (11, AVal.slice (ckv l) 4 Tag.ro), (12, AVal.int IntKind.i64 (↑n : Int)), (13, AVal.int IntKind.i64 (↑i : Int)), (22, AVal.bool (hold (decide (IntKind.wrap IntKind.i64 ((↑i : Int) + (1 : Int)) < (↑(List.length (ckv l)) : Int)))))] [] [(6, AObj.cells [AVal.int IntKind.i64 (Prod.fst c), AVal.slice (iv (Prod.fst (Prod.snd c))) 1 Tag.ro, AVal.int IntKind.i64 (Prod.fst (Prod.snd (Prod.snd c))), AVal.bool (Prod.snd (Prod.snd (Prod.snd c)))]), (10, AObj.map (mb m))] Sto.empty)) := by kernel_rfl
noncomputable def rightC_S (l : List Ck) (la : Int) (m : List (Int × Bool)) (n i : Nat) (c : Ck) (nx : Int) (b : Bool) : St := St.mk 88 [(0, .slice (ckv l) 4 .ro), (3, .int .i64 la), (4, .map (.loc 10)), (5, .int .i64 (i : Int)), (6, .ptr (.loc 6) 0), (7, .int .i64 nx), (11, .slice (ckv l) 4 .ro), (12, .int .i64 (n : Int)), (13, .int .i64 (i : Int)), (22, .bool b)] [] [(6, .cells (ckC c)), (10, .map (mb m))] (Sto.empty)
noncomputable abbrev rightC_C : Code := code_11_1_1_0_1_0_0_1_1_0_0_1_1_0_1
theorem rightC_r (l : List Ck) (la : Int) (m : List (Int × Bool)) (n i : Nat) (c : Ck) (nx : Int) (b : Bool) (K : Exit → St → Prop) : vc Try.prog cRight code_11_1_1_0_1_0_0_1_1_0_0_1_1_0_1 K (St.mk 88 [(0, .slice (ckv l) 4 .ro), (3, .int .i64 la), (4, .map (.loc 10)), (5, .int .i64 (i : Int)), (6, .ptr (.loc 6) 0), (7, .int .i64 nx), (11, .slice (ckv l) 4 .ro), (12, .int .i64 (n : Int)), (13, .int .i64 (i : Int)), (22, .bool b)] [] [(6, .cells (ckC c)), (10, .map (mb m))] (Sto.empty)) =
  (brV b true (∀ (m_1 : Int), m_1 = IntKind.wrap IntKind.i64 ((↑i : Int) + (1 : Int)) → gb (decide ((0 : Int) ≤ m_1 ∧ m_1 < (↑(List.length (ckv l)) : Int))) (gb (decide (1 ≤ List.length (List.drop 0 (elemAt (ckv l) m_1)) ∧ 0 < 1) && etaOk (Sh.int IntKind.i64) (List.getD (List.drop 0 (elemAt (ckv l) m_1)) 0 AVal.undef)) (K Exit.normal (St.mk 88 [(0, AVal.slice (ckv l) 4 Tag.ro), (3, AVal.int IntKind.i64 la), (4, AVal.map (Oid.loc 10)), (5, AVal.int IntKind.i64 (↑i : Int)), (6, AVal.ptr (Oid.loc 6) 0), (7, AVal.int IntKind.i64 (AVal.intOf (List.getD (List.drop 0 (elemAt (ckv l) m_1)) 0 AVal.undef))), (11, AVal.slice (ckv l) 4 Tag.ro), (12, AVal.int IntKind.i64 (↑n : Int)), (13, AVal.int IntKind.i64 (↑i : Int)), (22, AVal.bool b)] [] [(6, AObj.cells [AVal.int IntKind.i64 (Prod.fst c), AVal.slice (iv (Prod.fst (Prod.snd c))) 1 Tag.ro, AVal.int IntKind.i64 (Prod.fst (Prod.snd (Prod.snd c))), AVal.bool (Prod.snd (Prod.snd (Prod.snd c)))]), (10, AObj.map (mb m))] Sto.empty)))) (K Exit.normal (St.mk 88 [(0, AVal.slice (ckv l) 4 Tag.ro), (3, AVal.int IntKind.i64 la), (4, AVal.map (Oid.loc 10)), (5, AVal.int IntKind.i64 (↑i : Int)), (6, AVal.ptr (Oid.loc 6) 0), (7, AVal.int IntKind.i64 nx), (11, AVal.slice (ckv l) 4 Tag.ro), (12, AVal.int IntKind.i64 (↑n : Int)), (13, AVal.int IntKind.i64 (↑i : Int)), (22, AVal.bool b)] [] [(6, AObj.cells [AVal.int IntKind.i64 (Prod.fst c), AVal.slice (iv (Prod.fst (Prod.snd c))) 1 Tag.ro, AVal.int IntKind.i64 (Prod.fst (Prod.snd (Prod.snd c))), AVal.bool (Prod.snd (Prod.snd (Prod.snd c)))]), (10, AObj.map (mb m))] Sto.empty))) := by kernel_rfl
noncomputable def rightA_S (l : List Ck) (la : Int) (m : List (Int × Bool)) (n i : Nat) (c : Ck) (nx : Int) : St := St.mk 88 [(0, .slice (ckv l) 4 .ro), (3, .int .i64 la), (4, .map (.loc 10)), (5, .int .i64 (i : Int)), (6, .ptr (.loc 6) 0), (7, .int .i64 nx), (11, .slice (ckv l) 4 .ro), (12, .int .i64 (n : Int)), (13, .int .i64 (i : Int))] [] [(6, .cells (ckC c)), (10, .map (mb m))] (Sto.empty)
noncomputable abbrev rightA_C : Code := code_11_1_1_0_1_0_0_1_1_0_0_1_1_1
theorem rightA_r (l : List Ck) (la : Int) (m : List (Int × Bool)) (n i : Nat) (c : Ck) (nx : Int) (K : Exit → St → Prop) : vc Try.prog cRight code_11_1_1_0_1_0_0_1_1_0_0_1_1_1 K (St.mk 88 [(0, .slice (ckv l) 4 .ro), (3, .int .i64 la), (4, .map (.loc 10)), (5, .int .i64 (i : Int)), (6, .ptr (.loc 6) 0), (7, .int .i64 nx), (11, .slice (ckv l) 4 .ro), (12, .int .i64 (n : Int)), (13, .int .i64 (i : Int))] [] [(6, .cells (ckC c)), (10, .map (mb m))] (Sto.empty)) =
  (brV (Prod.snd (Prod.snd (Prod.snd c))) false (brV (hold (Prod.fst (Prod.snd (Prod.snd c)) != nx)) false (brV (hold (decide (Prod.fst c < (0 : Int)))) false (gb (keysOk Try.prog 3 (mb m) && etaOk Sh.bool (mapVal (AVal.int IntKind.i64 (Prod.fst c)) (AVal.bool false) (mb m))) (brV (AVal.boolOf (mapVal (AVal.int IntKind.i64 (Prod.fst c)) (AVal.bool false) (mb m))) false (brV (!hold (hold (Prod.fst c == (0 : Int)) == hold ((↑i : Int) == (0 : Int)))) false (brV (hold (decide ((4 : Int) < (↑(List.length (iv (Prod.fst (Prod.snd c)))) : Int)))) false (brV (hold (decide ((0 : Int) < (↑i : Int)))) true (brV (hold ((↑(List.length (iv (Prod.fst (Prod.snd c)))) : Int) == (0 : Int))) true (K Exit.ret (St.mk 88 [(0, AVal.slice (ckv l) 4 Tag.ro), (3, AVal.int IntKind.i64 la), (4, AVal.map (Oid.loc 10)), (5, AVal.int IntKind.i64 (↑i : Int)), (6, AVal.ptr (Oid.loc 6) 0), (7, AVal.int IntKind.i64 nx), (11, AVal.slice (ckv l) 4 Tag.ro), (12, AVal.int IntKind.i64 (↑n : Int)), (13, AVal.int IntKind.i64 (↑i : Int)), (71, AVal.bool (hold ((↑(List.length (iv (Prod.fst (Prod.snd c)))) : Int) == (0 : Int)))), (2, AVal.bool false)] [] [(6, AObj.cells [AVal.int IntKind.i64 (Prod.fst c), AVal.slice (iv (Prod.fst (Prod.snd c))) 1 Tag.ro, AVal.int IntKind.i64 (Prod.fst (Prod.snd (Prod.snd c))), AVal.bool (Prod.snd (Prod.snd (Prod.snd c)))]), (10, AObj.map (mb m))] Sto.empty)) (gb (keysOk Try.prog 3 (mb m) && true) (loopV (fun s => St.norm [] [0, 3, 4, 11, 12, 13, 76, 77, 78] [10] s) (vc Try.prog cRight code_11_1_1_0_1_0_0_1_1_0_0_1_1_1_1_1_1_0_0) (blockK 2 K) (St.mk 88 [(0, AVal.slice (ckv l) 4 Tag.ro), (3, AVal.int IntKind.i64 la), (4, AVal.map (Oid.loc 10)), (11, AVal.slice (ckv l) 4 Tag.ro), (12, AVal.int IntKind.i64 (↑n : Int)), (13, AVal.int IntKind.i64 (↑i : Int)), (76, AVal.slice (iv (Prod.fst (Prod.snd c))) 1 Tag.ro), (77, AVal.int IntKind.i64 (↑(List.length (iv (Prod.fst (Prod.snd c)))) : Int)), (78, AVal.int IntKind.i64 (0 : Int))] [] [(10, AObj.map (mapPut (AVal.int IntKind.i64 (Prod.fst c)) (AVal.bool true) (mb m)))] Sto.empty)))) (gb (keysOk Try.prog 3 (mb m) && true) (loopV (fun s => St.norm [] [0, 3, 4, 11, 12, 13, 76, 77, 78] [10] s) (vc Try.prog cRight code_11_1_1_0_1_0_0_1_1_0_0_1_1_1_1_1_1_0_0) (blockK 2 K) (St.mk 88 [(0, AVal.slice (ckv l) 4 Tag.ro), (3, AVal.int IntKind.i64 la), (4, AVal.map (Oid.loc 10)), (11, AVal.slice (ckv l) 4 Tag.ro), (12, AVal.int IntKind.i64 (↑n : Int)), (13, AVal.int IntKind.i64 (↑i : Int)), (76, AVal.slice (iv (Prod.fst (Prod.snd c))) 1 Tag.ro), (77, AVal.int IntKind.i64 (↑(List.length (iv (Prod.fst (Prod.snd c)))) : Int)), (78, AVal.int IntKind.i64 (0 : Int))] [] [(10, AObj.map (mapPut (AVal.int IntKind.i64 (Prod.fst c)) (AVal.bool true) (mb m)))] Sto.empty)))) (K Exit.ret (St.mk 88 [(0, AVal.slice (ckv l) 4 Tag.ro), (3, AVal.int IntKind.i64 la), (4, AVal.map (Oid.loc 10)), (5, AVal.int IntKind.i64 (↑i : Int)), (6, AVal.ptr (Oid.loc 6) 0), (7, AVal.int IntKind.i64 nx), (11, AVal.slice (ckv l) 4 Tag.ro), (12, AVal.int IntKind.i64 (↑n : Int)), (13, AVal.int IntKind.i64 (↑i : Int)), (71, AVal.bool true), (2, AVal.bool false)] [] [(6, AObj.cells [AVal.int IntKind.i64 (Prod.fst c), AVal.slice (iv (Prod.fst (Prod.snd c))) 1 Tag.ro, AVal.int IntKind.i64 (Prod.fst (Prod.snd (Prod.snd c))), AVal.bool (Prod.snd (Prod.snd (Prod.snd c)))]), (10, AObj.map (mb m))] Sto.empty))) (K Exit.ret (St.mk 88 [(0, AVal.slice (ckv l) 4 Tag.ro), (3, AVal.int IntKind.i64 la), (4, AVal.map (Oid.loc 10)), (5, AVal.int IntKind.i64 (↑i : Int)), (6, AVal.ptr (Oid.loc 6) 0), (7, AVal.int IntKind.i64 nx), (11, AVal.slice (ckv l) 4 Tag.ro), (12, AVal.int IntKind.i64 (↑n : Int)), (13, AVal.int IntKind.i64 (↑i : Int)), (71, AVal.bool true), (2, AVal.bool false)] [] [(6, AObj.cells [AVal.int IntKind.i64 (Prod.fst c), AVal.slice (iv (Prod.fst (Prod.snd c))) 1 Tag.ro, AVal.int IntKind.i64 (Prod.fst (Prod.snd (Prod.snd c))), AVal.bool (Prod.snd (Prod.snd (Prod.snd c)))]), (10, AObj.map (mb m))] Sto.empty))) (K Exit.ret (St.mk 88 [(0, AVal.slice (ckv l) 4 Tag.ro), (3, AVal.int IntKind.i64 la), (4, AVal.map (Oid.loc 10)), (5, AVal.int IntKind.i64 (↑i : Int)), (6, AVal.ptr (Oid.loc 6) 0), (7, AVal.int IntKind.i64 nx), (11, AVal.slice (ckv l) 4 Tag.ro), (12, AVal.int IntKind.i64 (↑n : Int)), (13, AVal.int IntKind.i64 (↑i : Int)), (71, AVal.bool true), (2, AVal.bool false)] [] [(6, AObj.cells [AVal.int IntKind.i64 (Prod.fst c), AVal.slice (iv (Prod.fst (Prod.snd c))) 1 Tag.ro, AVal.int IntKind.i64 (Prod.fst (Prod.snd (Prod.snd c))), AVal.bool (Prod.snd (Prod.snd (Prod.snd c)))]), (10, AObj.map (mb m))] Sto.empty)))) (K Exit.ret (St.mk 88 [(0, AVal.slice (ckv l) 4 Tag.ro), (3, AVal.int IntKind.i64 la), (4, AVal.map (Oid.loc 10)), (5, AVal.int IntKind.i64 (↑i : Int)), (6, AVal.ptr (Oid.loc 6) 0), (7, AVal.int IntKind.i64 nx), (11, AVal.slice (ckv l) 4 Tag.ro), (12, AVal.int IntKind.i64 (↑n : Int)), (13, AVal.int IntKind.i64 (↑i : Int)), (71, AVal.bool true), (2, AVal.bool false)] [] [(6, AObj.cells [AVal.int IntKind.i64 (Prod.fst c), AVal.slice (iv (Prod.fst (Prod.snd c))) 1 Tag.ro, AVal.int IntKind.i64 (Prod.fst (Prod.snd (Prod.snd c))), AVal.bool (Prod.snd (Prod.snd (Prod.snd c)))]), (10, AObj.map (mb m))] Sto.empty))) (K Exit.ret (St.mk 88 [(0, AVal.slice (ckv l) 4 Tag.ro), (3, AVal.int IntKind.i64 la), (4, AVal.map (Oid.loc 10)), (5, AVal.int IntKind.i64 (↑i : Int)), (6, AVal.ptr (Oid.loc 6) 0), (7, AVal.int IntKind.i64 nx), (11, AVal.slice (ckv l) 4 Tag.ro), (12, AVal.int IntKind.i64 (↑n : Int)), (13, AVal.int IntKind.i64 (↑i : Int)), (71, AVal.bool true), (2, AVal.bool false)] [] [(6, AObj.cells [AVal.int IntKind.i64 (Prod.fst c), AVal.slice (iv (Prod.fst (Prod.snd c))) 1 Tag.ro, AVal.int IntKind.i64 (Prod.fst (Prod.snd (Prod.snd c))), AVal.bool (Prod.snd (Prod.snd (Prod.snd c)))]), (10, AObj.map (mb m))] Sto.empty))) (K Exit.ret (St.mk 88 [(0, AVal.slice (ckv l) 4 Tag.ro), (3, AVal.int IntKind.i64 la), (4, AVal.map (Oid.loc 10)), (5, AVal.int IntKind.i64 (↑i : Int)), (6, AVal.ptr (Oid.loc 6) 0), (7, AVal.int IntKind.i64 nx), (11, AVal.slice (ckv l) 4 Tag.ro), (12, AVal.int IntKind.i64 (↑n : Int)), (13, AVal.int IntKind.i64 (↑i : Int)), (71, AVal.bool true), (2, AVal.bool false)] [] [(6, AObj.cells [AVal.int IntKind.i64 (Prod.fst c), AVal.slice (iv (Prod.fst (Prod.snd c))) 1 Tag.ro, AVal.int IntKind.i64 (Prod.fst (Prod.snd (Prod.snd c))), AVal.bool (Prod.snd (Prod.snd (Prod.snd c)))]), (10, AObj.map (mb m))] Sto.empty))) := by kernel_rfl
noncomputable def rightM_S (l : List Ck) (la : Int) (m : List (Int × Bool)) (n i : Nat) (e : List Int) (k j : Nat) : St := St.mk 88 [(0, .slice (ckv l) 4 .ro), (3, .int .i64 la), (4, .map (.loc 10)), (11, .slice (ckv l) 4 .ro), (12, .int .i64 (n : Int)), (13, .int .i64 (i : Int)), (76, .slice (iv e) 1 .ro), (77, .int .i64 (k : Int)), (78, .int .i64 (j : Int))] [] [(10, .map (mb m))] (Sto.empty)
noncomputable abbrev rightM_C : Code := code_11_1_1_0_1_0_0_1_1_0_0_1_1_1_1_1_1_0_0
theorem rightM_r (l : List Ck) (la : Int) (m : List (Int × Bool)) (n i : Nat) (e : List Int) (k j : Nat) (L : St → Prop) (K : Exit → St → Prop) : vc Try.prog cRight code_11_1_1_0_1_0_0_1_1_0_0_1_1_1_1_1_1_0_0 (thenK (fun s => L (St.norm [] [0, 3, 4, 11, 12, 13, 76, 77, 78] [10] s)) K) (St.mk 88 [(0, .slice (ckv l) 4 .ro), (3, .int .i64 la), (4, .map (.loc 10)), (11, .slice (ckv l) 4 .ro), (12, .int .i64 (n : Int)), (13, .int .i64 (i : Int)), (76, .slice (iv e) 1 .ro), (77, .int .i64 (k : Int)), (78, .int .i64 (j : Int))] [] [(10, .map (mb m))] (Sto.empty)) =
  (brV (hold (decide ((↑j : Int) < (↑k : Int)))) true (gb (decide ((0 : Int) ≤ (↑j : Int) ∧ (↑j : Int) < (↑(List.length (iv e)) : Int))) (gb (decide (1 ≤ List.length (elemAt (iv e) (↑j : Int)) ∧ 0 < 1) && etaOk (Sh.int IntKind.i64) (List.getD (elemAt (iv e) (↑j : Int)) 0 AVal.undef)) (brV (hold (decide (AVal.intOf (List.getD (elemAt (iv e) (↑j : Int)) 0 AVal.undef) ≤ la))) true (K Exit.ret (St.mk 88 [(0, AVal.slice (ckv l) 4 Tag.ro), (3, AVal.int IntKind.i64 la), (4, AVal.map (Oid.loc 10)), (11, AVal.slice (ckv l) 4 Tag.ro), (12, AVal.int IntKind.i64 (↑n : Int)), (13, AVal.int IntKind.i64 (↑i : Int)), (76, AVal.slice (iv e) 1 Tag.ro), (77, AVal.int IntKind.i64 (↑k : Int)), (78, AVal.int IntKind.i64 (↑j : Int)), (79, AVal.bool (hold (decide ((↑j : Int) < (↑k : Int))))), (9, AVal.int IntKind.i64 (AVal.intOf (List.getD (elemAt (iv e) (↑j : Int)) 0 AVal.undef))), (84, AVal.bool (hold (decide (AVal.intOf (List.getD (elemAt (iv e) (↑j : Int)) 0 AVal.undef) ≤ la)))), (2, AVal.bool false)] [] [(10, AObj.map (mb m))] Sto.empty)) (L (St.mk 88 [(0, AVal.slice (ckv l) 4 Tag.ro), (3, AVal.int IntKind.i64 (AVal.intOf (List.getD (elemAt (iv e) (↑j : Int)) 0 AVal.undef))), (4, AVal.map (Oid.loc 10)), (11, AVal.slice (ckv l) 4 Tag.ro), (12, AVal.int IntKind.i64 (↑n : Int)), (13, AVal.int IntKind.i64 (↑i : Int)), (76, AVal.slice (iv e) 1 Tag.ro), (77, AVal.int IntKind.i64 (↑k : Int)), (78, AVal.int IntKind.i64 (IntKind.wrap IntKind.i64 ((↑j : Int) + (1 : Int))))] [] [(10, AObj.map (mb m))] Sto.empty))))) (K (Exit.exit 2) (St.mk 88 [(0, AVal.slice (ckv l) 4 Tag.ro), (3, AVal.int IntKind.i64 la), (4, AVal.map (Oid.loc 10)), (11, AVal.slice (ckv l) 4 Tag.ro), (12, AVal.int IntKind.i64 (↑n : Int)), (13, AVal.int IntKind.i64 (↑i : Int)), (76, AVal.slice (iv e) 1 Tag.ro), (77, AVal.int IntKind.i64 (↑k : Int)), (78, AVal.int IntKind.i64 (↑j : Int)), (79, AVal.bool (hold (decide ((↑j : Int) < (↑k : Int)))))] [] [(10, AObj.map (mb m))] Sto.empty))) := by kernel_rfl
noncomputable def rightI_S (l : List Ck) (la : Int) (m : List (Int × Bool)) (n i : Nat) : St := St.mk 88 [(0, .slice (ckv l) 4 .ro), (3, .int .i64 la), (4, .map (.loc 10)), (11, .slice (ckv l) 4 .ro), (12, .int .i64 (n : Int)), (13, .int .i64 (i : Int))] [] [(10, .map (mb m))] (Sto.empty)
noncomputable abbrev rightI_C : Code := code_11_1_1_0_1_0_0_1_1_1
theorem rightI_r (l : List Ck) (la : Int) (m : List (Int × Bool)) (n i : Nat) (K : Exit → St → Prop) : vc Try.prog cRight code_11_1_1_0_1_0_0_1_1_1 K (St.mk 88 [(0, .slice (ckv l) 4 .ro), (3, .int .i64 la), (4, .map (.loc 10)), (11, .slice (ckv l) 4 .ro), (12, .int .i64 (n : Int)), (13, .int .i64 (i : Int))] [] [(10, .map (mb m))] (Sto.empty)) =
  (K Exit.normal (St.mk 88 [(0, AVal.slice (ckv l) 4 Tag.ro), (3, AVal.int IntKind.i64 la), (4, AVal.map (Oid.loc 10)), (11, AVal.slice (ckv l) 4 Tag.ro), (12, AVal.int IntKind.i64 (↑n : Int)), (13, AVal.int IntKind.i64 (IntKind.wrap IntKind.i64 ((↑i : Int) + (1 : Int))))] [] [(10, AObj.map (mb m))] Sto.empty)) := by kernel_rfl
noncomputable def rightF_S (m : List (Int × Bool)) : St := St.mk 88 [] [] [(10, .map (mb m))] (Sto.empty)
noncomputable abbrev rightF_C : Code := code_11_1_1_1
theorem rightF_r (m : List (Int × Bool)) (Q : AVal → Sto → Prop) : vc Try.prog cRight code_11_1_1_1 (endK Try.prog Try.f11.results.toList Q) (St.mk 88 [] [] [(10, .map (mb m))] (Sto.empty)) =
  (Q (AVal.bool true) Sto.empty) := by kernel_rfl
theorem ids_r (l : List Ck) (Q : AVal → Sto → Prop) : vc Try.prog cIds code_13_ (endK Try.prog Try.f13.results.toList Q) (St.start Try.f13.ntmps [.slice (ckv l) 4 .ro] (Sto.empty)) =
  (loopV (fun s => St.norm [(3, 1)] [3, 6, 7, 8] [] s) (vc Try.prog cIds code_13_1_1_0_1_0_0) (blockK 0 (thenK (fun s => cutV (vc Try.prog cIds code_13_1_1_1 (endK Try.prog (Array.toList (Go.Func.results Try.f13)) Q)) (St.norm [(3, 1)] [3] [] s)) (endK Try.prog (Array.toList (Go.Func.results Try.f13)) Q))) (St.mk 18 [(3, AVal.slice [] 1 (Tag.own 0)), (6, AVal.slice (ckv l) 4 Tag.ro), (7, AVal.int IntKind.i64 (↑(List.length (ckv l)) : Int)), (8, AVal.int IntKind.i64 (0 : Int))] [] [] (Sto.pushOwn Sto.empty 0))) := by kernel_rfl
theorem ids_i (l : List Ck) (Q : AVal → Sto → Prop) (ho : OrcOk Try.prog cIds) (h : loopV (fun s => St.norm [(3, 1)] [3, 6, 7, 8] [] s) (vc Try.prog cIds code_13_1_1_0_1_0_0) (blockK 0 (thenK (fun s => cutV (vc Try.prog cIds code_13_1_1_1 (endK Try.prog (Array.toList (Go.Func.results Try.f13)) Q)) (St.norm [(3, 1)] [3] [] s)) (endK Try.prog (Array.toList (Go.Func.results Try.f13)) Q))) (St.mk 18 [(3, AVal.slice [] 1 (Tag.own 0)), (6, AVal.slice (ckv l) 4 Tag.ro), (7, AVal.int IntKind.i64 (↑(List.length (ckv l)) : Int)), (8, AVal.int IntKind.i64 (0 : Int))] [] [] (Sto.pushOwn Sto.empty 0))) : ACall Try.prog 13 [.slice (ckv l) 4 .ro] (Sto.empty) Q :=
  ACall.intro hmix Try.func13 (c := code_13_) (by kernel_rfl) cIds ho (Nat.le_of_ble_eq_true (by kernel_rfl)) (by rw [ids_r]; exact h)
noncomputable def idsL_S (l : List Ck) (o : List Int) (n i : Nat) : St := St.mk 18 [(3, .slice (iv o) 1 (.own 0)), (6, .slice (ckv l) 4 .ro), (7, .int .i64 (n : Int)), (8, .int .i64 (i : Int))] [] [] (Sto.pushOwn Sto.empty (iv o).length)
noncomputable abbrev idsL_C : Code := code_13_1_1_0_1_0_0
theorem idsL_r (l : List Ck) (o : List Int) (n i : Nat) (L : St → Prop) (K : Exit → St → Prop) : vc Try.prog cIds code_13_1_1_0_1_0_0 (thenK (fun s => L (St.norm [(3, 1)] [3, 6, 7, 8] [] s)) K) (St.mk 18 [(3, .slice (iv o) 1 (.own 0)), (6, .slice (ckv l) 4 .ro), (7, .int .i64 (n : Int)), (8, .int .i64 (i : Int))] [] [] (Sto.pushOwn Sto.empty (iv o).length)) =
  (brV (hold (decide ((↑i : Int) < (↑n : Int)))) true (gb (decide ((0 : Int) ≤ (↑i : Int) ∧ (↑i : Int) < (↑(List.length (ckv l)) : Int))) (gb (decide (4 ≤ List.length (elemAt (ckv l) (↑i : Int)) ∧ 0 < 4) && (etaOk (Sh.int IntKind.i64) (List.getD (elemAt (ckv l) (↑i : Int)) 0 AVal.undef) && (sliceOk 1 (List.getD (elemAt (ckv l) (↑i : Int)) 1 AVal.undef) && (etaOk (Sh.int IntKind.i64) (List.getD (elemAt (ckv l) (↑i : Int)) 2 AVal.undef) && (etaOk Sh.bool (List.getD (elemAt (ckv l) (↑i : Int)) 3 AVal.undef) && true))))) (gb (decide (decide (true = true ∧ some (List.length (iv o)) = some (List.length (iv o)) ∧ (List.length (iv o) + List.length (AVal.elems (List.getD (elemAt (ckv l) (↑i : Int)) 1 AVal.undef))) * 8 ≤ 140737488355328 ∧ List.length (iv o) + List.length (AVal.elems (List.getD (elemAt (ckv l) (↑i : Int)) 1 AVal.undef)) ≤ 9223372036854775807) = true ∧ true = true)) (L (St.mk 18 [(3, AVal.slice (iv o ++ AVal.elems (List.getD (elemAt (ckv l) (↑i : Int)) 1 AVal.undef)) 1 (Tag.own 0)), (6, AVal.slice (ckv l) 4 Tag.ro), (7, AVal.int IntKind.i64 (↑n : Int)), (8, AVal.int IntKind.i64 (IntKind.wrap IntKind.i64 ((↑i : Int) + (1 : Int))))] [] [] (Sto.setOwn (Sto.pushOwn Sto.empty (List.length (iv o))) 0 (List.length (iv o) + List.length (AVal.elems (List.getD (elemAt (ckv l) (↑i : Int)) 1 AVal.undef))))))))) (K (Exit.exit 0) (St.mk 18 [(3, AVal.slice (iv o) 1 (Tag.own 0)), (6, AVal.slice (ckv l) 4 Tag.ro), (7, AVal.int IntKind.i64 (↑n : Int)), (8, AVal.int IntKind.i64 (↑i : Int)), (9, AVal.bool (hold (decide ((↑i : Int) < (↑n : Int)))))] [] [] (Sto.pushOwn Sto.empty (List.length (iv o)))))) := by kernel_rfl
noncomputable def idsF_S (o : List Int) : St := St.mk 18 [(3, .slice (iv o) 1 (.own 0))] [] [] (Sto.pushOwn Sto.empty (iv o).length)
noncomputable abbrev idsF_C : Code := code_13_1_1_1
theorem idsF_r (o : List Int) (Q : AVal → Sto → Prop) : vc Try.prog cIds code_13_1_1_1 (endK Try.prog Try.f13.results.toList Q) (St.mk 18 [(3, .slice (iv o) 1 (.own 0))] [] [] (Sto.pushOwn Sto.empty (iv o).length)) =
  (Q (AVal.slice (iv o) 1 (Tag.own 0)) (Sto.pushOwn Sto.empty (List.length (iv o)))) := by kernel_rfl
theorem place_r (l : List Ck) (x : Int) (Q : AVal → Sto → Prop) : vc Try.prog cPlace code_29_ (endK Try.prog Try.f29.results.toList Q) (St.start Try.f29.ntmps [.slice (ckv l) 4 .ro, .int .i64 x] (Sto.empty)) =
  (loopV (fun s => St.norm [] [1, 5, 8, 9, 10] [] s) (vc Try.prog cPlace code_29_1_1_0_1_0_0) (blockK 0 (thenK (fun s => cutV (vc Try.prog cPlace code_29_1_1_1 (endK Try.prog (Array.toList (Go.Func.results Try.f29)) Q)) (St.norm [] [5] [] s)) (endK Try.prog (Array.toList (Go.Func.results Try.f29)) Q))) (St.mk 30 [(1, AVal.int IntKind.i64 x), (5, AVal.int IntKind.i64 (0 : Int)), (8, AVal.slice (ckv l) 4 Tag.ro), (9, AVal.int IntKind.i64 (↑(List.length (ckv l)) : Int)), (10, AVal.int IntKind.i64 (0 : Int))] [] [] Sto.empty)) := by kernel_rfl
theorem place_i (l : List Ck) (x : Int) (Q : AVal → Sto → Prop) (ho : OrcOk Try.prog cPlace) (h : loopV (fun s => St.norm [] [1, 5, 8, 9, 10] [] s) (vc Try.prog cPlace code_29_1_1_0_1_0_0) (blockK 0 (thenK (fun s => cutV (vc Try.prog cPlace code_29_1_1_1 (endK Try.prog (Array.toList (Go.Func.results Try.f29)) Q)) (St.norm [] [5] [] s)) (endK Try.prog (Array.toList (Go.Func.results Try.f29)) Q))) (St.mk 30 [(1, AVal.int IntKind.i64 x), (5, AVal.int IntKind.i64 (0 : Int)), (8, AVal.slice (ckv l) 4 Tag.ro), (9, AVal.int IntKind.i64 (↑(List.length (ckv l)) : Int)), (10, AVal.int IntKind.i64 (0 : Int))] [] [] Sto.empty)) : ACall Try.prog 29 [.slice (ckv l) 4 .ro, .int .i64 x] (Sto.empty) Q :=
  ACall.intro hmix Try.func29 (c := code_29_) (by kernel_rfl) cPlace ho (Nat.le_of_ble_eq_true (by kernel_rfl)) (by rw [place_r]; exact h)
noncomputable def placeL_S (l : List Ck) (x : Int) (a n i : Nat) : St := St.mk 30 [(1, .int .i64 x), (5, .int .i64 (a : Int)), (8, .slice (ckv l) 4 .ro), (9, .int .i64 (n : Int)), (10, .int .i64 (i : Int))] [] [] (Sto.empty)
noncomputable abbrev placeL_C : Code := code_29_1_1_0_1_0_0
theorem placeL_r (l : List Ck) (x : Int) (a n i : Nat) (L : St → Prop) (K : Exit → St → Prop) : vc Try.prog cPlace code_29_1_1_0_1_0_0 (thenK (fun s => L (St.norm [] [1, 5, 8, 9, 10] [] s)) K) (St.mk 30 [(1, .int .i64 x), (5, .int .i64 (a : Int)), (8, .slice (ckv l) 4 .ro), (9, .int .i64 (n : Int)), (10, .int .i64 (i : Int))] [] [] (Sto.empty)) =
  (brV (hold (decide ((↑i : Int) < (↑n : Int)))) true (gb (decide ((0 : Int) ≤ (↑i : Int) ∧ (↑i : Int) < (↑(List.length (ckv l)) : Int))) (gb (decide (4 ≤ List.length (elemAt (ckv l) (↑i : Int)) ∧ 0 < 4) && (etaOk (Sh.int IntKind.i64) (List.getD (elemAt (ckv l) (↑i : Int)) 0 AVal.undef) && (sliceOk 1 (List.getD (elemAt (ckv l) (↑i : Int)) 1 AVal.undef) && (etaOk (Sh.int IntKind.i64) (List.getD (elemAt (ckv l) (↑i : Int)) 2 AVal.undef) && (etaOk Sh.bool (List.getD (elemAt (ckv l) (↑i : Int)) 3 AVal.undef) && true))))) (brV (hold (decide ((0 : Int) < (↑(List.length (AVal.elems (List.getD (elemAt (ckv l) (↑i : Int)) 1 AVal.undef))) : Int)))) true (gb (decide ((0 : Int) ≤ (0 : Int) ∧ (0 : Int) < (↑(List.length (AVal.elems (List.getD (elemAt (ckv l) (↑i : Int)) 1 AVal.undef))) : Int))) (gb (decide (1 ≤ List.length (elemAt (AVal.elems (List.getD (elemAt (ckv l) (↑i : Int)) 1 AVal.undef)) (0 : Int)) ∧ 0 < 1) && etaOk (Sh.int IntKind.i64) (List.getD (elemAt (AVal.elems (List.getD (elemAt (ckv l) (↑i : Int)) 1 AVal.undef)) (0 : Int)) 0 AVal.undef)) (brV (hold (decide (AVal.intOf (List.getD (elemAt (AVal.elems (List.getD (elemAt (ckv l) (↑i : Int)) 1 AVal.undef)) (0 : Int)) 0 AVal.undef) ≤ x))) true (cutV (vc Try.prog cPlace code_29_1_1_0_1_0_0_1_1_1 (thenK (fun s => L (St.norm [] [1, 5, 8, 9, 10] [] s)) K)) (St.mk 30 [(1, AVal.int IntKind.i64 x), (5, AVal.int IntKind.i64 (↑i : Int)), (8, AVal.slice (ckv l) 4 Tag.ro), (9, AVal.int IntKind.i64 (↑n : Int)), (10, AVal.int IntKind.i64 (↑i : Int))] [] [] Sto.empty)) (cutV (vc Try.prog cPlace code_29_1_1_0_1_0_0_1_1_1 (thenK (fun s => L (St.norm [] [1, 5, 8, 9, 10] [] s)) K)) (St.mk 30 [(1, AVal.int IntKind.i64 x), (5, AVal.int IntKind.i64 (↑a : Int)), (8, AVal.slice (ckv l) 4 Tag.ro), (9, AVal.int IntKind.i64 (↑n : Int)), (10, AVal.int IntKind.i64 (↑i : Int))] [] [] Sto.empty))))) (cutV (vc Try.prog cPlace code_29_1_1_0_1_0_0_1_1_1 (thenK (fun s => L (St.norm [] [1, 5, 8, 9, 10] [] s)) K)) (St.mk 30 [(1, AVal.int IntKind.i64 x), (5, AVal.int IntKind.i64 (↑a : Int)), (8, AVal.slice (ckv l) 4 Tag.ro), (9, AVal.int IntKind.i64 (↑n : Int)), (10, AVal.int IntKind.i64 (↑i : Int))] [] [] Sto.empty))))) (K (Exit.exit 0) (St.mk 30 [(1, AVal.int IntKind.i64 x), (5, AVal.int IntKind.i64 (↑a : Int)), (8, AVal.slice (ckv l) 4 Tag.ro), (9, AVal.int IntKind.i64 (↑n : Int)), (10, AVal.int IntKind.i64 (↑i : Int)), (11, AVal.bool (hold (decide ((↑i : Int) < (↑n : Int)))))] [] [] Sto.empty))) := by kernel_rfl
noncomputable def placeI_S (l : List Ck) (x : Int) (a n i : Nat) : St := St.mk 30 [(1, .int .i64 x), (5, .int .i64 (a : Int)), (8, .slice (ckv l) 4 .ro), (9, .int .i64 (n : Int)), (10, .int .i64 (i : Int))] [] [] (Sto.empty)
noncomputable abbrev placeI_C : Code := code_29_1_1_0_1_0_0_1_1_1
theorem placeI_r (l : List Ck) (x : Int) (a n i : Nat) (K : Exit → St → Prop) : vc Try.prog cPlace code_29_1_1_0_1_0_0_1_1_1 K (St.mk 30 [(1, .int .i64 x), (5, .int .i64 (a : Int)), (8, .slice (ckv l) 4 .ro), (9, .int .i64 (n : Int)), (10, .int .i64 (i : Int))] [] [] (Sto.empty)) =
  (K Exit.normal (St.mk 30 [(1, AVal.int IntKind.i64 x), (5, AVal.int IntKind.i64 (↑a : Int)), (8, AVal.slice (ckv l) 4 Tag.ro), (9, AVal.int IntKind.i64 (↑n : Int)), (10, AVal.int IntKind.i64 (IntKind.wrap IntKind.i64 ((↑i : Int) + (1 : Int))))] [] [] Sto.empty)) := by kernel_rfl
noncomputable def placeZ_S (a : Nat) : St := St.mk 30 [(5, .int .i64 (a : Int))] [] [] (Sto.empty)
noncomputable abbrev placeZ_C : Code := code_29_1_1_1
theorem placeZ_r (a : Nat) (Q : AVal → Sto → Prop) : vc Try.prog cPlace code_29_1_1_1 (endK Try.prog Try.f29.results.toList Q) (St.mk 30 [(5, .int .i64 (a : Int))] [] [] (Sto.empty)) =
  (Q (AVal.int IntKind.i64 (↑a : Int)) Sto.empty) := by kernel_rfl
theorem fresh1_r (c : Ck) (n : Int) (Q : AVal → Sto → Prop) : vc Try.prog cFresh1 code_50_ (endK Try.prog Try.f50.results.toList Q) (St.start Try.f50.ntmps [ckV c, .ptr (.out 0) 0] (Sto.push Sto.empty (.cells [.int .i64 n]))) =
  (Q (AVal.bool (hold (Prod.fst c == n))) (Sto.push Sto.empty (AObj.cells [AVal.int IntKind.i64 n]))) := by kernel_rfl
theorem fresh1_i (c : Ck) (n : Int) (Q : AVal → Sto → Prop) (ho : OrcOk Try.prog cFresh1) (h : Q (AVal.bool (hold (Prod.fst c == n))) (Sto.push Sto.empty (AObj.cells [AVal.int IntKind.i64 n]))) : ACall Try.prog 50 [ckV c, .ptr (.out 0) 0] (Sto.push Sto.empty (.cells [.int .i64 n])) Q :=
  ACall.intro hmix Try.func50 (c := code_50_) (by kernel_rfl) cFresh1 ho (Nat.le_of_ble_eq_true (by kernel_rfl)) (by rw [fresh1_r]; exact h)
theorem indexF_r (l : List Ck) (x : Int) (Q : AVal → Sto → Prop) : vc Try.prog cIndexF code_55_ (endK Try.prog Try.f55.results.toList Q) (St.start Try.f55.ntmps [.slice (ckv l) 4 .ro, .func (.func 50) [] [.ptr (.out 0) 0]] (Sto.push Sto.empty (.cells [.int .i64 x]))) =
  (loopV (fun s => St.norm [] [0, 1, 7, 8] [] s) (vc Try.prog cIndexF code_55_1_0_1_0_0) (blockK 0 (thenK (vc Try.prog cIndexF code_55_1_1 (endK Try.prog (Array.toList (Go.Func.results Try.f55)) Q)) (endK Try.prog (Array.toList (Go.Func.results Try.f55)) Q))) (St.mk 19 [(0, AVal.slice (ckv l) 4 Tag.ro), (1, AVal.func (Go.Fn.func 50) [] [AVal.ptr (Oid.out 0) 0]), (7, AVal.int IntKind.i64 (↑(List.length (ckv l)) : Int)), (8, AVal.int IntKind.i64 (0 : Int))] [] [] (Sto.push Sto.empty (AObj.cells [AVal.int IntKind.i64 x])))) := by kernel_rfl
theorem indexF_i (l : List Ck) (x : Int) (Q : AVal → Sto → Prop) (ho : OrcOk Try.prog cIndexF) (h : loopV (fun s => St.norm [] [0, 1, 7, 8] [] s) (vc Try.prog cIndexF code_55_1_0_1_0_0) (blockK 0 (thenK (vc Try.prog cIndexF code_55_1_1 (endK Try.prog (Array.toList (Go.Func.results Try.f55)) Q)) (endK Try.prog (Array.toList (Go.Func.results Try.f55)) Q))) (St.mk 19 [(0, AVal.slice (ckv l) 4 Tag.ro), (1, AVal.func (Go.Fn.func 50) [] [AVal.ptr (Oid.out 0) 0]), (7, AVal.int IntKind.i64 (↑(List.length (ckv l)) : Int)), (8, AVal.int IntKind.i64 (0 : Int))] [] [] (Sto.push Sto.empty (AObj.cells [AVal.int IntKind.i64 x])))) : ACall Try.prog 55 [.slice (ckv l) 4 .ro, .func (.func 50) [] [.ptr (.out 0) 0]] (Sto.push Sto.empty (.cells [.int .i64 x])) Q :=
  ACall.intro hmix Try.func55 (c := code_55_) (by kernel_rfl) cIndexF ho (Nat.le_of_ble_eq_true (by kernel_rfl)) (by rw [indexF_r]; exact h)
noncomputable def indexFL_S (l : List Ck) (x : Int) (n i : Nat) : St := St.mk 19 [(0, .slice (ckv l) 4 .ro), (1, .func (.func 50) [] [.ptr (.out 0) 0]), (7, .int .i64 (n : Int)), (8, .int .i64 (i : Int))] [] [] (Sto.push Sto.empty (.cells [.int .i64 x]))
noncomputable abbrev indexFL_C : Code := code_55_1_0_1_0_0
theorem indexFL_r (l : List Ck) (x : Int) (n i : Nat) (L : St → Prop) (K : Exit → St → Prop) : vc Try.prog cIndexF code_55_1_0_1_0_0 (thenK (fun s => L (St.norm [] [0, 1, 7, 8] [] s)) K) (St.mk 19 [(0, .slice (ckv l) 4 .ro), (1, .func (.func 50) [] [.ptr (.out 0) 0]), (7, .int .i64 (n : Int)), (8, .int .i64 (i : Int))] [] [] (Sto.push Sto.empty (.cells [.int .i64 x]))) =
  (brV (hold (decide ((↑i : Int) < (↑n : Int)))) true (gb (decide ((0 : Int) ≤ (↑i : Int) ∧ (↑i : Int) < (↑(List.length (ckv l)) : Int))) (gb (decide (4 ≤ List.length (elemAt (ckv l) (↑i : Int)) ∧ 0 < 4) && (etaOk (Sh.int IntKind.i64) (List.getD (elemAt (ckv l) (↑i : Int)) 0 AVal.undef) && (sliceOk 1 (List.getD (elemAt (ckv l) (↑i : Int)) 1 AVal.undef) && (etaOk (Sh.int IntKind.i64) (List.getD (elemAt (ckv l) (↑i : Int)) 2 AVal.undef) && (etaOk Sh.bool (List.getD (elemAt (ckv l) (↑i : Int)) 3 AVal.undef) && true))))) (gb (List.all (AVal.elems (List.getD (elemAt (ckv l) (↑i : Int)) 1 AVal.undef)) isI64 && isN1 (Sto.push Sto.empty (AObj.cells [AVal.int IntKind.i64 x])) 0 (n1Of (Sto.push Sto.empty (AObj.cells [AVal.int IntKind.i64 x])) 0)) (brV (hold (AVal.intOf (List.getD (elemAt (ckv l) (↑i : Int)) 0 AVal.undef) == n1Of (Sto.push Sto.empty (AObj.cells [AVal.int IntKind.i64 x])) 0)) true (K Exit.ret (St.mk 19 [(0, AVal.slice (ckv l) 4 Tag.ro), (1, AVal.func (Go.Fn.func 50) [] [AVal.ptr (Oid.out 0) 0]), (7, AVal.int IntKind.i64 (↑n : Int)), (8, AVal.int IntKind.i64 (↑i : Int)), (9, AVal.bool (hold (decide ((↑i : Int) < (↑n : Int))))), (5, AVal.int IntKind.i64 (↑i : Int)), (16, AVal.bool (hold (AVal.intOf (List.getD (elemAt (ckv l) (↑i : Int)) 0 AVal.undef) == n1Of (Sto.push Sto.empty (AObj.cells [AVal.int IntKind.i64 x])) 0))), (4, AVal.int IntKind.i64 (↑i : Int))] [] [] (Sto.push Sto.empty (AObj.cells [AVal.int IntKind.i64 x])))) (L (St.mk 19 [(0, AVal.slice (ckv l) 4 Tag.ro), (1, AVal.func (Go.Fn.func 50) [] [AVal.ptr (Oid.out 0) 0]), (7, AVal.int IntKind.i64 (↑n : Int)), (8, AVal.int IntKind.i64 (IntKind.wrap IntKind.i64 ((↑i : Int) + (1 : Int))))] [] [] (Sto.push Sto.empty (AObj.cells [AVal.int IntKind.i64 x])))))))) (K (Exit.exit 0) (St.mk 19 [(0, AVal.slice (ckv l) 4 Tag.ro), (1, AVal.func (Go.Fn.func 50) [] [AVal.ptr (Oid.out 0) 0]), (7, AVal.int IntKind.i64 (↑n : Int)), (8, AVal.int IntKind.i64 (↑i : Int)), (9, AVal.bool (hold (decide ((↑i : Int) < (↑n : Int)))))] [] [] (Sto.push Sto.empty (AObj.cells [AVal.int IntKind.i64 x]))))) := by kernel_rfl
theorem containsF_r (l : List Ck) (x : Int) (Q : AVal → Sto → Prop) : vc Try.prog cContainsF code_49_ (endK Try.prog Try.f49.results.toList Q) (St.start Try.f49.ntmps [.slice (ckv l) 4 .ro, .func (.func 50) [] [.ptr (.out 0) 0]] (Sto.push Sto.empty (.cells [.int .i64 x]))) =
  (∀ (y : Bool), y = List.contains (nosC (List.map ckOf (ckv l))) (n1Of (Sto.push Sto.empty (AObj.cells [AVal.int IntKind.i64 x])) 0) → ∀ (y_1 : Int), (y_1 = if y = true then (↑(List.idxOf (n1Of (Sto.push Sto.empty (AObj.cells [AVal.int IntKind.i64 x])) 0) (nosC (List.map ckOf (ckv l)))) : Int) else (-1 : Int)) → gb (List.all (ckv l) ckIs && (lenM (List.length (ckv l)) && isN1 (Sto.push Sto.empty (AObj.cells [AVal.int IntKind.i64 x])) 0 (n1Of (Sto.push Sto.empty (AObj.cells [AVal.int IntKind.i64 x])) 0))) (Q (AVal.bool (hold (decide ((0 : Int) ≤ y_1)))) (Sto.push Sto.empty (AObj.cells [AVal.int IntKind.i64 x])))) := by kernel_rfl
theorem containsF_i (l : List Ck) (x : Int) (Q : AVal → Sto → Prop) (ho : OrcOk Try.prog cContainsF) (h : ∀ (y : Bool), y = List.contains (nosC (List.map ckOf (ckv l))) (n1Of (Sto.push Sto.empty (AObj.cells [AVal.int IntKind.i64 x])) 0) → ∀ (y_1 : Int), (y_1 = if y = true then (↑(List.idxOf (n1Of (Sto.push Sto.empty (AObj.cells [AVal.int IntKind.i64 x])) 0) (nosC (List.map ckOf (ckv l)))) : Int) else (-1 : Int)) → gb (List.all (ckv l) ckIs && (lenM (List.length (ckv l)) && isN1 (Sto.push Sto.empty (AObj.cells [AVal.int IntKind.i64 x])) 0 (n1Of (Sto.push Sto.empty (AObj.cells [AVal.int IntKind.i64 x])) 0))) (Q (AVal.bool (hold (decide ((0 : Int) ≤ y_1)))) (Sto.push Sto.empty (AObj.cells [AVal.int IntKind.i64 x])))) : ACall Try.prog 49 [.slice (ckv l) 4 .ro, .func (.func 50) [] [.ptr (.out 0) 0]] (Sto.push Sto.empty (.cells [.int .i64 x])) Q :=
  ACall.intro hmix Try.func49 (c := code_49_) (by kernel_rfl) cContainsF ho (Nat.le_of_ble_eq_true (by kernel_rfl)) (by rw [containsF_r]; exact h)
theorem fresh_r (l : List Ck) (Q : AVal → Sto → Prop) : vc Try.prog cFresh code_32_ (endK Try.prog Try.f32.results.toList Q) (St.start Try.f32.ntmps [.slice (ckv l) 4 .ro] (Sto.empty)) =
  (loopV (fun s => St.norm [] [0, 3] [3] s) (vc Try.prog cFresh code_32_1_1_0_0_0) (blockK 0 (thenK (fun s => cutV (vc Try.prog cFresh code_32_1_1_1 (endK Try.prog (Array.toList (Go.Func.results Try.f32)) Q)) (St.norm [] [3] [3] s)) (endK Try.prog (Array.toList (Go.Func.results Try.f32)) Q))) (St.mk 10 [(0, AVal.slice (ckv l) 4 Tag.ro), (3, AVal.ptr (Oid.out 0) 0)] [] [] (Sto.set (Sto.push Sto.empty (AObj.cells [AVal.int IntKind.i64 (0 : Int)])) 0 (AObj.cells [AVal.int IntKind.i64 (1 : Int)])))) := by kernel_rfl
theorem fresh_i (l : List Ck) (Q : AVal → Sto → Prop) (ho : OrcOk Try.prog cFresh) (h : loopV (fun s => St.norm [] [0, 3] [3] s) (vc Try.prog cFresh code_32_1_1_0_0_0) (blockK 0 (thenK (fun s => cutV (vc Try.prog cFresh code_32_1_1_1 (endK Try.prog (Array.toList (Go.Func.results Try.f32)) Q)) (St.norm [] [3] [3] s)) (endK Try.prog (Array.toList (Go.Func.results Try.f32)) Q))) (St.mk 10 [(0, AVal.slice (ckv l) 4 Tag.ro), (3, AVal.ptr (Oid.out 0) 0)] [] [] (Sto.set (Sto.push Sto.empty (AObj.cells [AVal.int IntKind.i64 (0 : Int)])) 0 (AObj.cells [AVal.int IntKind.i64 (1 : Int)])))) : ACall Try.prog 32 [.slice (ckv l) 4 .ro] (Sto.empty) Q :=
  ACall.intro hmix Try.func32 (c := code_32_) (by kernel_rfl) cFresh ho (Nat.le_of_ble_eq_true (by kernel_rfl)) (by rw [fresh_r]; exact h)
noncomputable def freshL_S (l : List Ck) (n : Nat) : St := St.mk 10 [(0, .slice (ckv l) 4 .ro), (3, .ptr (.out 0) 0)] [] [] (Sto.push Sto.empty (.cells [.int .i64 (n : Int)]))
noncomputable abbrev freshL_C : Code := code_32_1_1_0_0_0
theorem freshL_r (l : List Ck) (n : Nat) (L : St → Prop) (K : Exit → St → Prop) : vc Try.prog cFresh code_32_1_1_0_0_0 (thenK (fun s => L (St.norm [] [0, 3] [3] s)) K) (St.mk 10 [(0, .slice (ckv l) 4 .ro), (3, .ptr (.out 0) 0)] [] [] (Sto.push Sto.empty (.cells [.int .i64 (n : Int)]))) =
  (gb (List.all (ckv l) ckIs && (lenM (List.length (ckv l)) && isN1 (Sto.push Sto.empty (AObj.cells [AVal.int IntKind.i64 (↑n : Int)])) 0 (n1Of (Sto.push Sto.empty (AObj.cells [AVal.int IntKind.i64 (↑n : Int)])) 0))) (brV (hold (List.contains (nosC (List.map ckOf (ckv l))) (n1Of (Sto.push Sto.empty (AObj.cells [AVal.int IntKind.i64 (↑n : Int)])) 0))) true (L (St.mk 10 [(0, AVal.slice (ckv l) 4 Tag.ro), (3, AVal.ptr (Oid.out 0) 0)] [] [] (Sto.set (Sto.push Sto.empty (AObj.cells [AVal.int IntKind.i64 (↑n : Int)])) 0 (AObj.cells [AVal.int IntKind.i64 (IntKind.wrap IntKind.i64 ((↑n : Int) + (1 : Int)))])))) (K (Exit.exit 0) (St.mk 10 [(0, AVal.slice (ckv l) 4 Tag.ro), (3, AVal.ptr (Oid.out 0) 0), (6, AVal.bool (hold (List.contains (nosC (List.map ckOf (ckv l))) (n1Of (Sto.push Sto.empty (AObj.cells [AVal.int IntKind.i64 (↑n : Int)])) 0))))] [] [] (Sto.push Sto.empty (AObj.cells [AVal.int IntKind.i64 (↑n : Int)])))))) := by kernel_rfl
noncomputable def freshZ_S (n : Nat) : St := St.mk 10 [(3, .ptr (.out 0) 0)] [] [] (Sto.push Sto.empty (.cells [.int .i64 (n : Int)]))
noncomputable abbrev freshZ_C : Code := code_32_1_1_1
theorem freshZ_r (n : Nat) (Q : AVal → Sto → Prop) : vc Try.prog cFresh code_32_1_1_1 (endK Try.prog Try.f32.results.toList Q) (St.mk 10 [(3, .ptr (.out 0) 0)] [] [] (Sto.push Sto.empty (.cells [.int .i64 (n : Int)]))) =
  (Q (AVal.int IntKind.i64 (↑n : Int)) (Sto.push Sto.empty (AObj.cells [AVal.int IntKind.i64 (↑n : Int)]))) := by kernel_rfl
end Go.Proofs.Ytjdjecaclbdhhaa
end

section
namespace Go.AL
set_option linter.unusedSimpArgs false
set_option linter.unusedVariables false

/-! ### Numbers that rise -/
theorem riseF_iff (a : Int) : ∀ l : List Int, riseF a l = true ↔ (∀ x ∈ l, a < x) ∧ l.Pairwise (· < ·)
  | [] => by simp [riseF]
  | x :: r => by
    simp only [riseF, Bool.and_eq_true, decide_eq_true_eq, riseF_iff x r, List.mem_cons, List.pairwise_cons]
    constructor
    · rintro ⟨h1, h2, h3⟩
      exact ⟨fun y hy => hy.elim (fun e => by rw [e]; exact h1) fun hy => Int.lt_trans h1 (h2 y hy), h2, h3⟩
    · rintro ⟨h1, h2, h3⟩
      exact ⟨h1 x (.inl rfl), h2, h3⟩
theorem riseF_append (l m : List Int) : riseF (-1) (l ++ m) = (riseF (-1) l && riseF (lastI l) m) := by
  rw [Bool.eq_iff_iff, Bool.and_eq_true, riseF_iff, riseF_iff, riseF_iff, List.pairwise_append]
  constructor
  · rintro ⟨h1, h2, h3, h4⟩
    refine ⟨⟨fun x hx => h1 x (List.mem_append_left _ hx), h2⟩, fun x hx => ?_, h3⟩
    unfold lastI
    rw [List.getLastD_eq_getLast?]
    cases e : l.getLast? with
    | none => exact h1 x (List.mem_append_right _ hx)
    | some y => exact h4 y (List.mem_of_getLast? e) x hx
  · rintro ⟨⟨h1, h2⟩, h3, h4⟩
    have key : ∀ a ∈ l, ∀ b ∈ m, a < b := fun a ha b hb => by
      have h5 := h3 b hb
      unfold lastI at h5
      rw [List.getLastD_eq_getLast?] at h5
      cases e : l.getLast? with
      | none => rw [List.getLast?_eq_none_iff] at e; rw [e] at ha; cases ha
      | some y =>
        rw [e] at h5
        have h5 : y < b := h5
        have hl : l ≠ [] := fun h => by rw [h] at ha; cases ha
        rw [List.getLast?_eq_some_getLast hl] at e
        have e := Option.some.inj e
        have : a = y ∨ a < y := by
          rw [← List.dropLast_concat_getLast hl] at ha h2
          rw [e] at ha h2
          rcases List.mem_append.1 ha with h | h
          · exact .inr ((List.pairwise_append.1 h2).2.2 a h y (by simp))
          · exact .inl (by simpa using h)
        omega
    refine ⟨fun x hx0 => ?_, h2, h4, key⟩
    rcases List.mem_append.1 hx0 with hx | hx
    · exact h1 x hx
    · cases l with
      | nil => simpa [lastI] using h3 x hx
      | cons y l =>
        have := key y (by simp) x hx
        have := h1 y (by simp)
        omega
/-! ### Chains out of their parts: numbers and ids -/
abbrev Pt := Int × List Int
def mkC : List Pt → List Ck
  | [] => []
  | x :: r => (x.1, x.2, (r.headD (0, [])).1, false) :: mkC r
def ptsC (l : List Ck) : List Pt := l.map fun c => (c.1, c.2.1)
def idsP (p : List Pt) : List Int := p.flatMap fun x => x.2
theorem mkC_length : ∀ p : List Pt, (mkC p).length = p.length
  | [] => rfl
  | x :: r => by simp [mkC, mkC_length r]
theorem mkC_get : ∀ (p : List Pt) (i : Nat) (h : i < p.length), (mkC p)[i]'(by rw [mkC_length]; exact h) = (p[i].1, p[i].2, (p.getD (i + 1) (0, [])).1, false)
  | [], i, h => by simp at h
  | x :: r, 0, h => by
    simp only [mkC, List.getElem_cons_zero]
    cases r <;> rfl
  | x :: r, i + 1, h => by
    simp only [mkC, List.getElem_cons_succ]
    rw [mkC_get r i (by simpa using h)]
    simp
theorem ptsC_mkC : ∀ p : List Pt, ptsC (mkC p) = p
  | [] => rfl
  | x :: r => by
    have := ptsC_mkC r
    simp only [ptsC, mkC, List.map_cons] at this ⊢
    rw [this]
theorem idsC_pts (l : List Ck) : idsC l = idsP (ptsC l) := by simp [idsC, idsP, ptsC, List.flatMap_map]
theorem nosC_pts (l : List Ck) : nosC l = (ptsC l).map (·.1) := by simp [nosC, ptsC]
theorem idsC_mkC (p : List Pt) : idsC (mkC p) = idsP p := by rw [idsC_pts, ptsC_mkC]
theorem nosC_mkC (p : List Pt) : nosC (mkC p) = p.map (·.1) := by rw [nosC_pts, ptsC_mkC]
/-- What holds of a chain's parts. -/
structure ChP (p : List Pt) : Prop where
  nod : (p.map (·.1)).Nodup
  pos : ∀ i (h : i < p.length), 0 ≤ p[i].1 ∧ (p[i].1 = 0 ↔ i = 0)
  len : ∀ i (h : i < p.length), p[i].2.length ≤ 4 ∧ (0 < i → p[i].2 ≠ [])
  ris : riseF (-1) (idsP p) = true
theorem idsP_take (p : List Pt) (i : Nat) (h : i < p.length) : idsP (p.take (i + 1)) = idsP (p.take i) ++ p[i].2 := by
  rw [List.take_add_one, List.getElem?_eq_getElem h]
  show List.flatMap _ (List.take i p ++ [p[i]]) = _
  rw [List.flatMap_append]
  simp [idsP]
theorem mkC_take (p : List Pt) (i : Nat) : ptsC ((mkC p).take i) = p.take i := by
  have : ptsC ((mkC p).take i) = (ptsC (mkC p)).take i := by simp [ptsC, List.map_take]
  rw [this, ptsC_mkC]
theorem idsC_take (p : List Pt) (i : Nat) : idsC ((mkC p).take i) = idsP (p.take i) := by
  rw [idsC_pts, mkC_take]
theorem nosC_take (p : List Pt) (i : Nat) : nosC ((mkC p).take i) = (p.take i).map (·.1) := by
  rw [nosC_pts, mkC_take]
theorem getD_mkC (p : List Pt) (i : Nat) (h : i < p.length) : (mkC p).getD i ck0 = (p[i].1, p[i].2, (p.getD (i + 1) (0, [])).1, false) := by
  rw [List.getD_eq_getElem?_getD, List.getElem?_eq_getElem (by rw [mkC_length]; exact h), mkC_get p i h]; rfl
theorem nextC_mkC (p : List Pt) (i : Nat) : nextC (mkC p) i = (p.getD (i + 1) (0, [])).1 := by
  unfold nextC
  by_cases h : i + 1 < p.length
  · rw [getD_mkC p _ h]
    show p[i + 1].1 = _
    rw [List.getD_eq_getElem?_getD, List.getElem?_eq_getElem h]; rfl
  · rw [List.getD_eq_getElem?_getD, List.getElem?_eq_none (by rw [mkC_length]; omega), List.getD_eq_getElem?_getD, List.getElem?_eq_none (by omega)]; rfl
theorem rise_take {p : List Pt} (h : ∀ i (hi : i < p.length), riseF (lastI (idsP (p.take i))) p[i].2 = true) : ∀ k, k ≤ p.length → riseF (-1) (idsP (p.take k)) = true
  | 0, _ => rfl
  | k + 1, hk => by
    rw [idsP_take p k (by omega), riseF_append, rise_take h k (by omega), h k (by omega)]; rfl
theorem take_nodup {l : List Int} : (∀ i (h : i < l.length), l[i] ∉ l.take i) → l.Nodup := fun h => by
  rw [List.nodup_iff_pairwise_ne, List.pairwise_iff_getElem]
  intro i j hi hj hij e
  exact h j hj (List.mem_take_iff_getElem.2 ⟨i, by omega, e⟩)
/-- Which chains are right. -/
theorem right_mkC (p : List Pt) : rightC (mkC p) = true ↔ ChP p := by
  have hok : ∀ i (hi : i < p.length), okC (mkC p) i = true ↔ 0 ≤ p[i].1 ∧ p[i].1 ∉ (p.take i).map (·.1) ∧ (p[i].1 = 0 ↔ i = 0) ∧ p[i].2.length ≤ 4 ∧ (0 < i → p[i].2 ≠ []) ∧ riseF (lastI (idsP (p.take i))) p[i].2 = true := fun i hi => by
    simp only [okC, decide_eq_true_eq, getD_mkC p i hi, nextC_mkC, idsC_take, nosC_take, true_and]
  have hall : rightC (mkC p) = true ↔ ∀ i (hi : i < p.length), okC (mkC p) i = true := by
    simp only [rightC, decide_eq_true_eq, mkC_length]
  rw [hall]
  constructor
  · intro h
    refine ⟨?_, fun i hi => ?_, fun i hi => ?_, ?_⟩
    · refine take_nodup fun i hi => ?_
      have hi' : i < p.length := by simpa using hi
      have := ((hok i hi').1 (h i hi')).2.1
      rw [List.getElem_map, ← List.map_take]
      exact this
    · have := (hok i hi).1 (h i hi); exact ⟨this.1, this.2.2.1⟩
    · have := (hok i hi).1 (h i hi); exact ⟨this.2.2.2.1, this.2.2.2.2.1⟩
    · have := rise_take (p := p) (fun i hi => ((hok i hi).1 (h i hi)).2.2.2.2.2) p.length (Nat.le_refl _)
      rwa [List.take_length] at this
  · intro h i hi
    refine (hok i hi).2 ⟨(h.pos i hi).1, fun hm => ?_, (h.pos i hi).2, (h.len i hi).1, (h.len i hi).2, ?_⟩
    · obtain ⟨x, hx, e⟩ := List.mem_map.1 hm
      obtain ⟨j, hj, e2⟩ := List.mem_take_iff_getElem.1 hx
      have hn := List.pairwise_iff_getElem.1 (List.nodup_iff_pairwise_ne.1 h.nod) j i (by simp; omega) (by simpa using hi) (by omega)
      rw [List.getElem_map, List.getElem_map, e2] at hn
      exact hn e
    · have hr := h.ris
      have e : idsP p = idsP (p.take i) ++ (p[i].2 ++ idsP (p.drop (i + 1))) := by
        conv => lhs; rw [← List.take_append_drop i p, List.drop_eq_getElem_cons hi]
        unfold idsP
        rw [List.flatMap_append, List.flatMap_cons]
      rw [e, riseF_append, Bool.and_eq_true] at hr
      have h2 := (riseF_iff _ _).1 hr.2
      refine (riseF_iff _ _).2 ⟨fun x hx => h2.1 x (List.mem_append_left _ hx), (List.pairwise_append.1 h2.2).1⟩
/-- A right chain is one out of its parts. -/
theorem right_pts {l : List Ck} (h : rightC l = true) : l = mkC (ptsC l) := by
  have h : ∀ i, i < l.length → okC l i = true := by simpa [rightC] using h
  have hpl : (ptsC l).length = l.length := by simp [ptsC]
  apply List.ext_getElem
  · rw [mkC_length, hpl]
  · intro i h1 h2
    have hk := h i h1
    simp only [okC, decide_eq_true_eq] at hk
    have hg : l.getD i ck0 = l[i] := by simp [List.getD_eq_getElem?_getD, h1]
    rw [hg] at hk
    rw [mkC_get _ i (by rw [hpl]; exact h1)]
    have e1 : (ptsC l)[i]'(by rw [hpl]; exact h1) = (l[i].1, l[i].2.1) := by simp [ptsC]
    have e2 : ((ptsC l).getD (i + 1) (0, [])).1 = nextC l i := by
      unfold nextC
      by_cases h3 : i + 1 < l.length
      · have : (ptsC l)[i + 1]? = some (l[i + 1].1, l[i + 1].2.1) := by simp [ptsC, h3]
        rw [List.getD_eq_getElem?_getD, this, List.getD_eq_getElem?_getD, List.getElem?_eq_getElem h3]; rfl
      · rw [List.getD_eq_getElem?_getD, List.getElem?_eq_none (by rw [hpl]; omega), List.getD_eq_getElem?_getD, List.getElem?_eq_none (by omega)]; rfl
    rw [e1, e2, ← hk.2.1, ← hk.1]
theorem ChP.pts {l : List Ck} (h : rightC l = true) : ChP (ptsC l) := by
  have := right_pts h
  rw [this] at h
  exact (right_mkC _).1 h
end Go.AL
end

section
namespace Go.Proofs.Ytjdjecaclbdhhaa
open Go.AL
set_option linter.unusedSimpArgs false
set_option linter.unusedVariables false
set_option maxHeartbeats 4000000
set_option maxRecDepth 20000

theorem wrap_u64 {n : Int} (h0 : 0 ≤ n) (h1 : n ≤ 18446744073709551615) : IntKind.u64.wrap n = n := by
  simp only [IntKind.wrap, IntKind.signed, IntKind.bits]
  simp
  omega
theorem mid_wrap {i j : Nat} (h : i ≤ j) (hj : j ≤ 140737488351232) : IntKind.i64.wrap (Int.fdiv (IntKind.u64.wrap (IntKind.i64.wrap ((i : Int) + (j : Int)))) 2) = (((i + j) / 2 : Nat) : Int) := by
  have e1 : IntKind.i64.wrap ((i : Int) + (j : Int)) = (i : Int) + (j : Int) := wrap_i64 (by omega) (by omega)
  have e2 : IntKind.u64.wrap ((i : Int) + (j : Int)) = (i : Int) + (j : Int) := wrap_u64 (by omega) (by omega)
  have e3 : Int.fdiv ((i : Int) + (j : Int)) 2 = (((i + j) / 2 : Nat) : Int) := by
    rw [Int.fdiv_eq_ediv_of_nonneg _ (by omega)]
    omega
  rw [e1, e2, e3, wrap_i64 (by omega) (by omega)]
theorem pred_wrap {i : Nat} (h : 0 < i) (hi : i ≤ 140737488351232) : IntKind.i64.wrap ((i : Int) - 1) = ((i - 1 : Nat) : Int) := by
  rw [wrap_i64 (by omega) (by omega)]; omega
theorem lenOk_of {n : Nat} (h : lenOk n = true) : n ≤ 140737488351232 := by simpa [lenOk] using h
theorem lenOk_mk {n : Nat} (h : n ≤ 140737488351232) : lenOk n = true := by simpa [lenOk] using h
theorem getD_one (a : AVal) : List.getD [a] 0 AVal.undef = a := rfl

theorem riseI_iff {l : List Int} : riseI l = true ↔ l.Pairwise (· < ·) := by simp [riseI]
theorem posI_le (l : List Int) (s : Int) : posI l s ≤ l.length := List.length_filter_le _ _
theorem posI_lt' : ∀ {l : List Int}, l.Pairwise (· < ·) → ∀ (s : Int) (i : Nat) (hi : i < l.length), l[i] < s ↔ i < posI l s
  | [], _, s, i, hi => by simp at hi
  | x :: l, h, s, i, hi => by
    obtain ⟨h1, h2⟩ := List.pairwise_cons.1 h
    by_cases hx : x < s
    · have e : posI (x :: l) s = posI l s + 1 := by simp [posI, hx]
      rw [e]
      cases i with
      | zero => simp [hx]
      | succ i =>
        have := posI_lt' h2 s i (by simpa using hi)
        simp only [List.getElem_cons_succ]
        rw [this]; omega
    · have e : posI (x :: l) s = 0 := by
        simp only [posI, List.filter_cons, hx, decide_false]
        have : l.filter (fun y => decide (y < s)) = [] := List.filter_eq_nil_iff.2 fun y hy => by have := h1 y hy; simp; omega
        simp [this]
      rw [e]
      cases i with
      | zero => simpa using hx
      | succ i =>
        have := h1 _ (List.getElem_mem (show i < l.length by simpa using hi))
        simp only [List.getElem_cons_succ]
        omega
theorem posI_lt {l : List Int} (h : riseI l = true) (s : Int) (i : Nat) (hi : i < l.length) : l[i] < s ↔ i < posI l s := posI_lt' (riseI_iff.1 h) s i hi
theorem contains_posI {l : List Int} (h : riseI l = true) (s : Int) : l.contains s = (decide (posI l s < l.length) && (l.getD (posI l s) 0 == s)) := by
  rw [Bool.eq_iff_iff]
  simp only [List.contains_iff_mem, Bool.and_eq_true, decide_eq_true_eq, beq_iff_eq]
  constructor
  · intro hs
    obtain ⟨j, hj, e⟩ := List.getElem_of_mem hs
    have h1 : ¬ j < posI l s := fun hh => by have := (posI_lt h s j hj).2 hh; omega
    have h2 : ¬ posI l s < j := fun hh => by
      have hp := List.pairwise_iff_getElem.1 (riseI_iff.1 h) (posI l s) j (by omega) hj hh
      have := (posI_lt h s _ (show posI l s < l.length by omega)).1 (by omega)
      omega
    have e2 : posI l s = j := by omega
    refine ⟨by omega, ?_⟩
    rw [e2, List.getD_eq_getElem?_getD, List.getElem?_eq_getElem hj]
    exact e
  · rintro ⟨h1, h2⟩
    rw [List.getD_eq_getElem?_getD, List.getElem?_eq_getElem h1] at h2
    have h2 : l[posI l s] = s := h2
    rw [← h2]; exact List.getElem_mem h1
theorem nan_ok : EntOk Try.prog nanE := by
  intro xs σ; simp only [nanE]; split
  · rename_i a
    intro _
    refine pcall_of (.refl _) (nan_i a _ (.of_none rfl) ?_) rfl rfl rfl rfl
    simp only [hold_eq, bne_self_eq_false]
    exact Wk.refl _
  · trivial
theorem nan2_ok : EntOk Try.prog nan2E := by
  intro xs σ; simp only [nan2E]; split
  · rename_i a
    intro _
    refine pcall_of (.refl _) (nan2_i a _ (.of_none rfl) ?_) rfl rfl rfl rfl
    simp only [hold_eq, bne_self_eq_false]
    exact Wk.refl _
  · trivial
theorem less_ok : EntOk Try.prog lessE := by
  intro xs σ; simp only [lessE]; split
  · rename_i a b
    intro _
    refine pcall_of (.refl _) (less_i a b _ (.of [nanE] rfl ⟨nan_ok, trivial⟩) ?_) rfl rfl rfl rfl
    simp only [hold_eq]
    exact Wk.refl _
  · trivial

theorem bs_c (l : List Int) (s : Int) (hr : riseI l = true) (hl : l.length ≤ 140737488351232) : ACall Try.prog 30 [.slice (iv l) 1 .ro, .int .i64 s] Sto.empty fun r _ => Wk r (.tuple [.int .i64 (posI l s : Int), .bool (l.contains s)]) := by
  refine bs_i _ _ _ (.of [lessE, nan2E] rfl ⟨less_ok, nan2_ok, trivial⟩) ?_
  have hn : (iv l).length = l.length := iv_length l
  refine loopV_intro (α := Nat × Nat) (fun x => bsL_S l s (iv l).length x.1 x.2) (fun x => x.1 ≤ x.2 ∧ x.2 ≤ l.length ∧ x.1 ≤ posI l s ∧ posI l s ≤ x.2) (fun x => x.2 - x.1) ?_ (0, (iv l).length) ⟨Nat.zero_le _, by simp, Nat.zero_le _, by simp only [hn]; exact posI_le _ _⟩
  rintro ⟨i, j⟩ ⟨hij, hj, h1, h2⟩ L hL
  simp only [] at hij hj h1 h2
  refine Eq.mpr (bsL_r l s _ i j L _) ?_
  simp only [hold_eq]
  rw [mid_wrap hij (by omega)]
  refine brV_by (fun h => ?_) (fun h => ?_)
  · have hlt : i < j := by simpa using h
    have hm : (i + j) / 2 < l.length := by omega
    rw [elemAt_iv l _ hm]
    refine gb_by (dt (by omega)) (gb_by rfl (brV_by (fun h => ?_) (fun h => ?_)))
    · have := (posI_lt hr s _ hm).1 (of_decide_eq_true h)
      rw [i64_succ hm hl]
      exact hL ((i + j) / 2 + 1, j) ⟨by simp only []; omega, hj, by simp only []; omega, h2⟩ (by simp only []; omega)
    · have hnl : ¬ (i + j) / 2 < posI l s := fun h3 => by
        have := (posI_lt hr s _ hm).2 h3
        have h : ¬ l[(i + j) / 2] < s := of_decide_eq_false h
        exact h this
      exact hL (i, (i + j) / 2) ⟨by simp only []; omega, by simp only []; omega, h1, by simp only []; omega⟩ (by simp only []; omega)
  · have hge : i = j := by simp at h; omega
    subst hge
    have hp : posI l s = i := by omega
    refine leaveTo (toCut (Eq.mpr (bsF_r l s _ i _) ?_))
    simp only [hold_eq]
    have hc := contains_posI hr s
    rw [hp] at hc
    rw [hp]
    refine brV_by (fun h => ?_) (fun h => ?_)
    · have hlt : i < l.length := by simpa using h
      rw [elemAt_iv l i hlt]
      have hg : l.getD i 0 = l[i] := by simp [hlt]
      rw [hg] at hc
      refine gb_by (dt (by omega)) (gb_by rfl (brV_by' (fun h => ?_) (fun h => ?_)))
      · have h : (l[i] == s) = false := h
        rw [h] at hc
        rw [hc]
        refine gb_by (dt (by omega)) (gb_by rfl ?_)
        simp
        exact Wk.refl _
      · have h : (l[i] == s) = true := h
        rw [h] at hc
        rw [hc]
        simp [hlt]
        exact Wk.refl _
    · have hge : ¬ i < l.length := by simpa using h
      rw [hc]
      simp [hge]
      exact Wk.refl _

theorem bs_ok : EntOk Try.prog bsE := by
  intro xs σ; simp only [bsE]; split
  · rename_i es s t x
    intro hc
    simp only [Bool.and_eq_true, hold_eq] at hc
    obtain ⟨h1, h2, h3, h4⟩ := hc
    simp only [hold_eq]
    exact pcall_of (.cons (wk_iv t h1 h2) (.refl _)) (bs_c _ x h3 (by simpa using lenOk_of h4)) (by simp only [noOutL, AVal.noOut, iv_noOut, Bool.and_true]) (by simp only [noTokL, AVal.noTok, iv_noTok, Tag.below, Bool.and_true]) rfl rfl
  · trivial

theorem indexI_c (l : List Int) (x : Int) (hl : l.length ≤ 140737488351232) : ACall Try.prog 44 [.slice (iv l) 1 .ro, .int .i64 x] Sto.empty fun r _ => Wk r (.int .i64 (if l.contains x then (l.idxOf x : Int) else -1)) := by
  refine indexI_i _ _ _ (.of_none rfl) ?_
  have hn : (iv l).length = l.length := iv_length l
  refine loopV_intro (α := Nat) (fun i => indexIL_S l x (iv l).length i) (fun i => i ≤ l.length ∧ ∀ y ∈ l.take i, y ≠ x) (fun i => l.length - i) ?_ 0 ⟨Nat.zero_le _, fun x hx => by simp at hx⟩
  rintro i ⟨hi, hpre⟩ L hL
  refine Eq.mpr (indexIL_r l x _ i L _) ?_
  simp only [hold_eq]
  refine brV_by (fun h => ?_) (fun h => ?_)
  · have hlt : i < l.length := by simpa using h
    rw [i64_succ hlt hl, elemAt_iv l i hlt]
    refine gb_by (dt (by omega)) (gb_by rfl (brV_by (fun h => ?_) (fun h => ?_)))
    · have e : x = l[i] := by
        have h : (x == l[i]) = true := h
        simpa using h
      have hc : l.contains x = true := by rw [e]; simp
      have hx : l.idxOf x = i := by
        unfold List.idxOf
        rw [List.findIdx_eq hlt]
        refine ⟨by simp [e], fun j hj => ?_⟩
        have := hpre l[j] (List.mem_take_iff_getElem.2 ⟨j, by omega, rfl⟩)
        simpa using this
      rw [if_pos hc, hx]
      exact Wk.refl _
    · have e : x ≠ l[i] := by
        have h : (x == l[i]) = false := h
        simpa using h
      refine hL (i + 1) ⟨hlt, fun y hy => ?_⟩ (by omega)
      rw [List.take_succ_eq_append_getElem hlt] at hy
      rcases List.mem_append.1 hy with h1 | h1
      · exact hpre y h1
      · simp at h1; subst h1; exact fun e' => e e'.symm
  · have hge : ¬ i < l.length := by simpa using h
    rw [List.take_of_length_le (by omega)] at hpre
    have hc : ¬ l.contains x = true := by
      intro hc
      have : x ∈ l := by simpa using hc
      exact hpre x this rfl
    rw [if_neg hc]
    exact Wk.refl _

theorem indexI_ok : EntOk Try.prog indexIE := by
  intro xs σ; simp only [indexIE]; split
  · rename_i es s t n
    intro hc
    simp only [Bool.and_eq_true, hold_eq] at hc
    obtain ⟨h1, h2, h3⟩ := hc
    exact pcall_of (.cons (wk_iv t h1 h2) (.refl _)) (indexI_c _ n (by simpa using lenOk_of h3)) (by simp only [noOutL, AVal.noOut, iv_noOut, Bool.and_true]) (by simp only [noTokL, AVal.noTok, iv_noTok, Bool.and_true, Tag.below]) rfl rfl
  · trivial

theorem containsI_c (l : List Int) (n : Int) (hl : l.length ≤ 140737488351232) : ACall Try.prog 27 [.slice (iv l) 1 .ro, .int .i64 n] Sto.empty fun r _ => Wk r (.bool (l.contains n)) := by
  refine containsI_i _ _ _ (.of [indexIE] rfl ⟨indexI_ok, trivial⟩) ?_
  simp only [hold_eq, iv_length, iv_isI64, okW_same, map_intOf_iv]
  intro y hy i hi
  have hy : y = l.contains n := hy
  subst hy
  refine gb_by (by simp [lenOk_mk hl]) ?_
  have : decide (0 ≤ i) = l.contains n := by
    have hn : i = if l.contains n = true then (l.idxOf n : Int) else -1 := hi
    rw [hn]
    cases h : l.contains n with
    | true => simp
    | false => simp
  rw [this]
  exact Wk.refl _

theorem containsI_ok : EntOk Try.prog containsIE := by
  intro xs σ; simp only [containsIE]; split
  · rename_i es s t n
    intro hc
    simp only [Bool.and_eq_true, hold_eq] at hc
    obtain ⟨h1, h2, h3⟩ := hc
    simp only [hold_eq]
    exact pcall_of (.cons (wk_iv t h1 h2) (.refl _)) (containsI_c _ n (by simpa using lenOk_of h3)) (by simp only [noOutL, AVal.noOut, iv_noOut, Bool.and_true]) (by simp only [noTokL, AVal.noTok, iv_noTok, Bool.and_true, Tag.below]) rfl rfl
  · trivial
end Go.Proofs.Ytjdjecaclbdhhaa
end

section
namespace Go.Proofs.Ytjdjecaclbdhhaa
open Go.AL
set_option linter.unusedSimpArgs false
set_option linter.unusedVariables false
set_option maxHeartbeats 2000000
set_option maxRecDepth 20000

theorem thenN {f : St → Prop} {K : Exit → St → Prop} {st : St} (h : f st) : thenK f K .normal st := h
theorem noRef_mb (k : Nat) (m : List (Int × Bool)) : AObj.noRef k (.map (mb m)) = true := by
  simp only [AObj.noRef, mb, mi, List.all_map, List.all_eq_true]
  intro x _
  simp [AVal.noRef]
theorem keys_mb (m : List (Int × Bool)) : keysOk Try.prog 3 (mb m) = true := keysOk_mi rfl _ _
theorem val_mb (m : List (Int × Bool)) (n : Int) : mapVal (.int .i64 n) (.bool false) (mb m) = .bool ((getI m n).getD false) := by
  unfold mb
  rw [mapVal_mi]
  cases getI m n <;> rfl
theorem lenM_of {n : Nat} (h : lenM n = true) : n ≤ 1000000 := by simpa [lenM] using h
theorem lenM_mk {n : Nat} (h : n ≤ 1000000) : lenM n = true := by simpa [lenM] using h
theorem and_tt {a b : Bool} (h1 : a = true) (h2 : b = true) : (a && b) = true := by rw [h1, h2]; rfl
theorem ckM_mk {c : Ck} (h : c.2.1.length ≤ 1000000) : ckM (ckV c) = true := by simp [ckM, lenM_mk h]
theorem ckM_all {l : List Ck} (h : ∀ c ∈ l, c.2.1.length ≤ 1000000) : (ckv l).all ckM = true := by
  rw [List.all_eq_true]
  intro x hx
  obtain ⟨c, hc, rfl⟩ := List.mem_map.1 hx
  exact ckM_mk (h c hc)
theorem ckM_of {es : List AVal} (h : es.all ckM = true) : ∀ c ∈ es.map ckOf, c.2.1.length ≤ 1000000 := by
  intro c hc
  obtain ⟨e, he, rfl⟩ := List.mem_map.1 hc
  have := List.all_eq_true.1 h e he
  simp only [ckM, Bool.and_eq_true] at this
  exact lenM_of this.2
theorem nosC_take1 (l : List Ck) (i : Nat) (h : i < l.length) : nosC (l.take (i + 1)) = nosC (l.take i) ++ [l[i].1] := by
  rw [List.take_add_one, List.getElem?_eq_getElem h]
  show nosC (List.take i l ++ [l[i]]) = _
  unfold nosC
  rw [List.map_append]; rfl
theorem idsC_take1 (l : List Ck) (i : Nat) (h : i < l.length) : idsC (l.take (i + 1)) = idsC (l.take i) ++ l[i].2.1 := by
  rw [List.take_add_one, List.getElem?_eq_getElem h]
  show idsC (List.take i l ++ [l[i]]) = _
  unfold idsC
  rw [List.flatMap_append]
  simp only [List.flatMap_cons, List.flatMap_nil, List.append_nil]
theorem riseF_take (a : Int) : ∀ (e : List Int) (j : Nat) (h : j < e.length), riseF a (e.take (j + 1)) = (riseF a (e.take j) && decide ((e.take j).getLastD a < e[j]))
  | x :: r, 0, _ => by simp [riseF]
  | x :: r, j + 1, h => by
    have := riseF_take x r j (by simpa using h)
    simp only [List.take_succ_cons, riseF, this, List.getElem_cons_succ]
    rw [Bool.and_assoc]
    simp only [List.getLastD_cons]
theorem last_take (a : Int) (e : List Int) (j : Nat) (h : j < e.length) : (e.take (j + 1)).getLastD a = e[j] := by
  rw [List.take_add_one, List.getElem?_eq_getElem h]
  show (List.take j e ++ [e[j]]).getLastD a = _
  rw [List.getLastD_concat]
theorem lastI_app (l e : List Int) : lastI (l ++ e) = e.getLastD (lastI l) := by
  unfold lastI
  rw [List.getLastD_eq_getLast?, List.getLastD_eq_getLast?, List.getLastD_eq_getLast?, List.getLast?_append]
  cases e.getLast? <;> rfl
theorem right_no {l : List Ck} {i : Nat} (hi : i < l.length) (h : okC l i = false) : rightC l = false := by
  cases hr : rightC l with
  | false => rfl
  | true =>
    simp only [rightC, decide_eq_true_eq] at hr
    rw [hr i hi] at h; cases h
theorem right_c (l : List Ck) (hl : l.length ≤ 1000000) (hc : ∀ c ∈ l, c.2.1.length ≤ 1000000) : ACall Try.prog 11 [.slice (ckv l) 4 .ro] Sto.empty fun v _ => Wk v (.bool (rightC l)) := by
  refine right_i l _ (.of_none rfl) ?_
  have hn : (ckv l).length = l.length := ckv_length l
  have no : ∀ {i : Nat}, i < l.length → okC l i = false → Wk (.bool false) (.bool (rightC l)) := fun hi h => by rw [right_no hi h]; exact Wk.refl _
  show loopV _ _ _ (rightL_S l (-1) [] (ckv l).length 0)
  rw [hn]
  refine loopV_intro (α := Nat × Int × List (Int × Bool)) (fun x => rightL_S l x.2.1 x.2.2 l.length x.1) (fun x => x.1 ≤ l.length ∧ (∀ j, j < x.1 → okC l j = true) ∧ x.2.1 = lastI (idsC (l.take x.1)) ∧ ∀ n, (getI x.2.2 n).getD false = (nosC (l.take x.1)).contains n) (fun x => l.length - x.1) ?_ (0, -1, []) ⟨Nat.zero_le _, fun j h => by simp at h, rfl, fun n => rfl⟩
  rintro ⟨i, la, m⟩ ⟨hi, hpre, hla, hm⟩ L hL
  have hi : i ≤ l.length := hi
  have hpre : ∀ j, j < i → okC l j = true := hpre
  have hla : la = lastI (idsC (l.take i)) := hla
  have hm : ∀ n, (getI m n).getD false = (nosC (l.take i)).contains n := hm
  refine Eq.mpr (rightL_r l la m l.length i L _) ?_
  simp only [hold_eq]
  refine brV_by (fun h => ?_) (fun h => ?_)
  case refine_2 =>
    have hi' : i = l.length := by have := of_decide_eq_false h; omega
    subst hi'
    refine leaveTo (toCut (Eq.mpr (rightF_r m _) ?_))
    have : rightC l = true := by simp only [rightC, decide_eq_true_eq]; exact hpre
    rw [this]; exact Wk.refl _
  have hlt : i < l.length := by have := of_decide_eq_true h; omega
  rw [elemAt_ckv l i hlt]
  have hg : l.getD i ck0 = l[i] := by simp [List.getD_eq_getElem?_getD, hlt]
  refine gb_by (dt (by omega)) (gb_by rfl (gb_by ?_ (toCut ?_)))
  · rw [noRef_mb]; decide
  show vc Try.prog cRight rightB_C _ (rightB_S l la m l.length i l[i] 0)
  refine Eq.mpr (rightB_r l la m l.length i l[i] 0 _) ?_
  rw [i64_succ hlt (by omega)]
  refine toCut ?_
  simp only [hold_eq]
  -- the next one's number
  have key : vc Try.prog cRight rightA_C (blockK 1 (thenK (fun s => cutV (vc Try.prog cRight rightI_C (thenK (fun s => L (St.norm [] [0, 3, 4, 11, 12, 13] [10] s)) (blockK 0 (thenK (fun s => cutV (vc Try.prog cRight rightF_C (endK Try.prog Try.f11.results.toList fun v x => Wk v (.bool (rightC l)))) (St.norm [] [] [10] s)) (endK Try.prog Try.f11.results.toList fun v x => Wk v (.bool (rightC l))))))) (St.norm [] [0, 3, 4, 11, 12, 13] [10] s)) (thenK (fun s => L (St.norm [] [0, 3, 4, 11, 12, 13] [10] s)) (blockK 0 (thenK (fun s => cutV (vc Try.prog cRight rightF_C (endK Try.prog Try.f11.results.toList fun v x => Wk v (.bool (rightC l)))) (St.norm [] [] [10] s)) (endK Try.prog Try.f11.results.toList fun v x => Wk v (.bool (rightC l)))))))) (rightA_S l la m l.length i l[i] (nextC l i)) := by
    have bad : ¬ (l[i].2.2.2 = false ∧ l[i].2.2.1 = nextC l i ∧ 0 ≤ l[i].1 ∧ l[i].1 ∉ nosC (l.take i) ∧ (l[i].1 = 0 ↔ i = 0) ∧ l[i].2.1.length ≤ 4 ∧ (0 < i → l[i].2.1 ≠ []) ∧ riseF (lastI (idsC (l.take i))) l[i].2.1 = true) → okC l i = false := fun h => by
      unfold okC; rw [hg]; exact decide_eq_false h
    have good : (l[i].2.2.2 = false ∧ l[i].2.2.1 = nextC l i ∧ 0 ≤ l[i].1 ∧ l[i].1 ∉ nosC (l.take i) ∧ (l[i].1 = 0 ↔ i = 0) ∧ l[i].2.1.length ≤ 4 ∧ (0 < i → l[i].2.1 ≠ []) ∧ riseF (lastI (idsC (l.take i))) l[i].2.1 = true) → okC l i = true := fun h => by
      unfold okC; rw [hg]; exact decide_eq_true h
    refine Eq.mpr (rightA_r l la m l.length i l[i] (nextC l i) _) ?_
    have hev : (iv l[i].2.1).length = l[i].2.1.length := iv_length _
    have hcl := hc _ (List.getElem_mem hlt)
    simp only [hold_eq]
    refine brV_by' (fun h1 => ?_) (fun h => no hlt (bad fun hh => by rw [hh.1] at h; cases h))
    refine brV_by' (fun h2 => ?_) (fun h => no hlt (bad fun hh => by rw [hh.2.1] at h; simp at h))
    have h2 : l[i].2.2.1 = nextC l i := by simpa using h2
    refine brV_by' (fun h3 => ?_) (fun h => no hlt (bad fun hh => by have := of_decide_eq_true h; omega))
    have h3 : 0 ≤ l[i].1 := by have := of_decide_eq_false h3; omega
    rw [val_mb, hm]
    refine gb_by (by rw [keys_mb]; rfl) ?_
    refine brV_by' (fun h4 => ?_) (fun h => no hlt (bad fun hh => hh.2.2.2.1 (by have h : (nosC (l.take i)).contains l[i].1 = true := h; simpa using h)))
    have h4 : l[i].1 ∉ nosC (l.take i) := by
      have h4 : (nosC (l.take i)).contains l[i].1 = false := h4
      simpa using h4
    refine brV_by' (fun h5 => ?_) (fun h => no hlt (bad fun hh => by
      have h5 := hh.2.2.2.2.1
      by_cases h0 : i = 0
      · have := h5.2 h0; rw [this, h0] at h; simp at h
      · have h6 : ¬ l[i].1 = 0 := fun e => h0 (h5.1 e)
        have e1 : (l[i].1 == 0) = false := by simpa using h6
        have e2 : ((i : Int) == 0) = false := by simpa using h0
        rw [e1, e2] at h; cases h))
    have h5 : l[i].1 = 0 ↔ i = 0 := by
      have h5 : ((l[i].1 == 0) == ((i : Int) == 0)) = true := by simpa using h5
      have h5 : (l[i].1 == 0) = ((i : Int) == 0) := by simpa using h5
      constructor
      · intro e
        have h6 : ((i : Int) == 0) = true := by rw [← h5]; simpa using e
        simpa using h6
      · intro e
        have h6 : (l[i].1 == 0) = true := by rw [h5]; simpa using e
        simpa using h6
    refine brV_by' (fun h6 => ?_) (fun h => no hlt (bad fun hh => by have := of_decide_eq_true h; have := hh.2.2.2.2.2.1; omega))
    have h6 : l[i].2.1.length ≤ 4 := by have := of_decide_eq_false h6; omega
    -- the ids
    have ids : (0 < i → l[i].2.1 ≠ []) → loopV (fun s => St.norm [] [0, 3, 4, 11, 12, 13, 76, 77, 78] [10] s) (vc Try.prog cRight rightM_C) (blockK 2 (blockK 1 (thenK (fun s => cutV (vc Try.prog cRight rightI_C (thenK (fun s => L (St.norm [] [0, 3, 4, 11, 12, 13] [10] s)) (blockK 0 (thenK (fun s => cutV (vc Try.prog cRight rightF_C (endK Try.prog Try.f11.results.toList fun v x => Wk v (.bool (rightC l)))) (St.norm [] [] [10] s)) (endK Try.prog Try.f11.results.toList fun v x => Wk v (.bool (rightC l))))))) (St.norm [] [0, 3, 4, 11, 12, 13] [10] s)) (thenK (fun s => L (St.norm [] [0, 3, 4, 11, 12, 13] [10] s)) (blockK 0 (thenK (fun s => cutV (vc Try.prog cRight rightF_C (endK Try.prog Try.f11.results.toList fun v x => Wk v (.bool (rightC l)))) (St.norm [] [] [10] s)) (endK Try.prog Try.f11.results.toList fun v x => Wk v (.bool (rightC l))))))))) (rightM_S l la (putI l[i].1 true m) l.length i l[i].2.1 l[i].2.1.length 0) := by
      intro h7
      refine loopV_intro (α := Nat × Int) (fun x => rightM_S l x.2 (putI l[i].1 true m) l.length i l[i].2.1 l[i].2.1.length x.1) (fun x => x.1 ≤ l[i].2.1.length ∧ x.2 = (l[i].2.1.take x.1).getLastD la ∧ riseF la (l[i].2.1.take x.1) = true) (fun x => l[i].2.1.length - x.1) ?_ (0, la) ⟨Nat.zero_le _, rfl, rfl⟩
      rintro ⟨j, lb⟩ ⟨hj, hlb, hrj⟩ L2 hL2
      have hj : j ≤ l[i].2.1.length := hj
      have hlb : lb = (l[i].2.1.take j).getLastD la := hlb
      have hrj : riseF la (l[i].2.1.take j) = true := hrj
      refine Eq.mpr (rightM_r l lb (putI l[i].1 true m) l.length i l[i].2.1 l[i].2.1.length j L2 _) ?_
      simp only [hold_eq]
      refine brV_by (fun hq => ?_) (fun hq => ?_)
      · have hjl : j < l[i].2.1.length := by have := of_decide_eq_true hq; omega
        have hst := riseF_take la l[i].2.1 j hjl
        rw [hrj, Bool.true_and, ← hlb] at hst
        rw [elemAt_iv _ j hjl, i64_succ hjl (by omega)]
        refine gb_by (dt (by omega)) (gb_by rfl (brV_by (fun hle => ?_) (fun hle => ?_)))
        · refine no hlt (bad fun hh => ?_)
          have hle : l[i].2.1[j] ≤ lb := of_decide_eq_true hle
          have hf := hh.2.2.2.2.2.2.2
          rw [← hla] at hf
          have h8 := (riseF_iff la _).1 hf
          have h9 : riseF la (l[i].2.1.take (j + 1)) = true := (riseF_iff la _).2 ⟨fun x hx => h8.1 x (List.mem_of_mem_take hx), h8.2.sublist (List.take_sublist _ _)⟩
          rw [hst] at h9
          have := of_decide_eq_true h9
          omega
        · have hle : ¬ l[i].2.1[j] ≤ lb := of_decide_eq_false hle
          refine hL2 (j + 1, l[i].2.1[j]) ⟨hjl, (last_take la _ j hjl).symm, ?_⟩ (by show l[i].2.1.length - (j + 1) < l[i].2.1.length - j; omega)
          show riseF la (l[i].2.1.take (j + 1)) = true
          rw [hst]; exact dt (by omega)
      · have hj' : j = l[i].2.1.length := by have := of_decide_eq_false hq; omega
        subst hj'
        rw [List.take_length] at hlb hrj
        refine leaveK (inBlock (toCut (Eq.mpr (rightI_r l lb (putI l[i].1 true m) l.length i _) ?_)))
        rw [i64_succ hlt (by omega)]
        refine hL (i + 1, lb, putI l[i].1 true m) ⟨hlt, fun j hj => ?_, ?_, fun n => ?_⟩ (by show l.length - (i + 1) < l.length - i; omega)
        · have hj : j < i + 1 := hj
          rcases Nat.lt_or_ge j i with h9 | h9
          · exact hpre j h9
          · obtain rfl : j = i := by omega
            exact good ⟨h1, h2, h3, h4, h5, h6, h7, by rw [← hla]; exact hrj⟩
        · show lb = lastI (idsC (l.take (i + 1)))
          rw [idsC_take1 l i hlt, lastI_app, hlb, hla]
        · show (getI (putI l[i].1 true m) n).getD false = (nosC (l.take (i + 1))).contains n
          rw [getI_putI, nosC_take1 l i hlt]
          by_cases e : l[i].1 = n
          · rw [if_pos e]; simp [e]
          · rw [if_neg e, hm n]
            have : ¬ n = l[i].1 := fun e' => e e'.symm
            simp [this]
    have hput : mapPut (.int .i64 l[i].1) (.bool true) (mb m) = mb (putI l[i].1 true m) := mapPut_mi AVal.bool l[i].1 true m
    rw [hput, hev]
    refine brV_by (fun h7 => brV_by (fun h8 => ?_) (fun h8 => ?_)) (fun h7 => ?_)
    · refine no hlt (bad fun hh => ?_)
      have h8 : l[i].2.1.length = 0 := by have h8 : ((l[i].2.1.length : Int) == 0) = true := h8; simpa using h8
      exact hh.2.2.2.2.2.2.1 (by have := of_decide_eq_true h7; omega) (List.eq_nil_of_length_eq_zero h8)
    · refine gb_by (by rw [keys_mb]; rfl) (ids fun _ e => ?_)
      rw [e] at h8; simp at h8
    · refine gb_by (by rw [keys_mb]; rfl) (ids fun h0 => ?_)
      have := of_decide_eq_false h7; omega
  have q := rightC_r l la m l.length i l[i] 0 (decide (((i + 1 : Nat) : Int) < ((ckv l).length : Int)))
  show vc Try.prog cRight rightC_C _ (rightC_S l la m l.length i l[i] 0 (decide (((i + 1 : Nat) : Int) < ((ckv l).length : Int))))
  refine Eq.mpr (q _) ?_
  clear q
  refine brV_by (fun hb => ?_) (fun hb => ?_)
  · intro k hk
    have hi1 : i + 1 < l.length := by have hb := of_decide_eq_true hb; omega
    rw [i64_succ hlt (by omega)] at hk
    subst hk
    rw [elemAt_ckv l (i + 1) hi1]
    refine gb_by (dt (by omega)) (gb_by rfl ?_)
    have e : nextC l i = l[i + 1].1 := by
      unfold nextC
      rw [List.getD_eq_getElem?_getD, List.getElem?_eq_getElem hi1]; rfl
    rw [e] at key
    refine thenN (toCut ?_)
    exact key
  · have hi1 : ¬ i + 1 < l.length := by have hb := of_decide_eq_false hb; omega
    have e : nextC l i = 0 := by
      unfold nextC
      rw [List.getD_eq_getElem?_getD, List.getElem?_eq_none (by omega)]; rfl
    rw [e] at key
    refine thenN (toCut ?_)
    exact key
theorem right_ok : EntOk Try.prog rightE := by
  intro xs σ; simp only [rightE]; split
  · rename_i es s t
    intro hc
    simp only [Bool.and_eq_true] at hc
    obtain ⟨h1, h2, h3, h4⟩ := hc
    simp only [hold_eq]
    exact pcall_of (.cons (wk_cks t h1 h2) (.refl _)) (right_c _ (by simpa using lenM_of h3) (ckM_of h4)) (by simp only [noOutL, AVal.noOut, ckv_noOut, Bool.and_true]) (by simp only [noTokL, AVal.noTok, ckv_noTok, Bool.and_true, Tag.below]) rfl rfl
  · trivial
end Go.Proofs.Ytjdjecaclbdhhaa
end

section
namespace Go.Proofs.Ytjdjecaclbdhhaa
open Go.AL
set_option linter.unusedSimpArgs false
set_option linter.unusedVariables false
set_option maxHeartbeats 2000000
set_option maxRecDepth 20000

theorem idsC_len : ∀ (l : List Ck) (n : Nat), (∀ c ∈ l, c.2.1.length ≤ n) → (idsC l).length ≤ n * l.length
  | [], n, _ => Nat.zero_le _
  | c :: l, n, h => by
    have ih := idsC_len l n fun x hx => h x (List.mem_cons_of_mem _ hx)
    have := h c (List.mem_cons_self ..)
    show (c.2.1 ++ idsC l).length ≤ _
    rw [List.length_append, List.length_cons, Nat.mul_succ]
    omega
theorem ids_c (l : List Ck) (hl : l.length ≤ 1000000) (hc : ∀ c ∈ l, c.2.1.length ≤ 1000000) : ACall Try.prog 13 [.slice (ckv l) 4 .ro] Sto.empty fun v _ => Wk v (.slice (iv (idsC l)) 1 .ro) := by
  refine ids_i l _ (.of_none rfl) ?_
  have hn : (ckv l).length = l.length := ckv_length l
  show loopV _ _ _ (idsL_S l (idsC (l.take 0)) (ckv l).length 0)
  rw [hn]
  refine loopV_intro (α := Nat) (fun i => idsL_S l (idsC (l.take i)) l.length i) (fun i => i ≤ l.length) (fun i => l.length - i) ?_ 0 (Nat.zero_le _)
  rintro i hi L hL
  refine Eq.mpr (idsL_r l (idsC (l.take i)) l.length i L _) ?_
  simp only [hold_eq]
  refine brV_by (fun h => ?_) (fun h => ?_)
  · have hlt : i < l.length := by have := of_decide_eq_true h; omega
    have hcl := hc _ (List.getElem_mem hlt)
    have hol := idsC_len (l.take i) 1000000 fun c hx => hc c (List.mem_of_mem_take hx)
    have htl : (l.take i).length = i := by rw [List.length_take]; omega
    have hov : (iv (idsC (l.take i))).length = (idsC (l.take i)).length := iv_length _
    have hev : (iv l[i].2.1).length = l[i].2.1.length := iv_length _
    rw [elemAt_ckv l i hlt, i64_succ hlt (by omega)]
    have e1 : AVal.elems (List.getD (ckC l[i]) 1 .undef) = iv l[i].2.1 := rfl
    have e2 : iv (idsC (l.take i)) ++ iv l[i].2.1 = iv (idsC (l.take (i + 1))) := by rw [idsC_take1 l i hlt, iv_append]
    have e3 : (iv (idsC (l.take i))).length + (iv l[i].2.1).length = (iv (idsC (l.take (i + 1)))).length := by rw [← e2, List.length_append]
    refine gb_by (dt (by omega)) (gb_by rfl ?_)
    rw [e1]
    refine gb_by (dt ⟨dt ⟨trivial, trivial, by rw [htl] at hol; omega, by rw [htl] at hol; omega⟩, trivial⟩) ?_
    rw [setOwn_e1, e2, e3]
    exact hL (i + 1) hlt (by omega)
  · have hi' : i = l.length := by have := of_decide_eq_false h; omega
    subst hi'
    rw [List.take_length]
    refine leaveTo (toCut (Eq.mpr (idsF_r (idsC l) _) ?_))
    exact Wk.ro _ _ _
theorem ids_ok : EntOk Try.prog idsE := by
  intro xs σ; simp only [idsE]; split
  · rename_i es s t
    intro hc
    simp only [Bool.and_eq_true] at hc
    obtain ⟨h1, h2, h3, h4⟩ := hc
    exact pcall_of (.cons (wk_cks t h1 h2) (.refl _)) (ids_c _ (by simpa using lenM_of h3) (ckM_of h4)) (by simp only [noOutL, AVal.noOut, ckv_noOut, Bool.and_true]) (by simp only [noTokL, AVal.noTok, ckv_noTok, Bool.and_true, Tag.below]) (by simp only [AVal.noOut, iv_noOut]) (by simp only [AVal.noTok, iv_noTok, Tag.below, Bool.and_true])
  · trivial
theorem placeF_app (id : Int) (c : Ck) : ∀ (l : List Ck) (k a : Nat), placeF id (l ++ [c]) k a = if c.2.1 ≠ [] ∧ c.2.1.getD 0 0 ≤ id then k + l.length else placeF id l k a
  | [], k, a => by simp [placeF]
  | x :: l, k, a => by
    simp only [List.cons_append, placeF]
    rw [placeF_app id c l]
    have : k + 1 + l.length = k + (x :: l).length := by simp; omega
    rw [this]
theorem place_take (l : List Ck) (id : Int) (i : Nat) (hi : i < l.length) : placeC (l.take (i + 1)) id = if l[i].2.1 ≠ [] ∧ l[i].2.1.getD 0 0 ≤ id then i else placeC (l.take i) id := by
  rw [List.take_add_one, List.getElem?_eq_getElem hi]
  show placeF id (List.take i l ++ [l[i]]) 0 0 = _
  rw [placeF_app]
  have : 0 + (l.take i).length = i := by rw [List.length_take]; omega
  rw [this]; rfl
theorem place_c (l : List Ck) (x : Int) (hl : l.length ≤ 1000000) (hc : ∀ c ∈ l, c.2.1.length ≤ 1000000) : ACall Try.prog 29 [.slice (ckv l) 4 .ro, .int .i64 x] Sto.empty fun v _ => Wk v (.int .i64 (placeC l x : Int)) := by
  refine place_i l x _ (.of_none rfl) ?_
  have hn : (ckv l).length = l.length := ckv_length l
  show loopV _ _ _ (placeL_S l x (placeC (l.take 0) x) (ckv l).length 0)
  rw [hn]
  refine loopV_intro (α := Nat) (fun i => placeL_S l x (placeC (l.take i) x) l.length i) (fun i => i ≤ l.length) (fun i => l.length - i) ?_ 0 (Nat.zero_le _)
  rintro i hi L hL
  refine Eq.mpr (placeL_r l x (placeC (l.take i) x) l.length i L _) ?_
  simp only [hold_eq]
  refine brV_by (fun h => ?_) (fun h => ?_)
  · have hlt : i < l.length := by have := of_decide_eq_true h; omega
    have hst := place_take l x i hlt
    have hev : (iv l[i].2.1).length = l[i].2.1.length := iv_length _
    have nxt := hL (i + 1) hlt (by omega)
    rw [elemAt_ckv l i hlt]
    have e1 : AVal.elems (List.getD (ckC l[i]) 1 .undef) = iv l[i].2.1 := rfl
    refine gb_by (dt (by omega)) (gb_by rfl ?_)
    rw [e1]
    refine brV_by (fun h1 => ?_) (fun h1 => ?_)
    · have h1 : 0 < l[i].2.1.length := by have := of_decide_eq_true h1; omega
      have e0 : elemAt (iv l[i].2.1) 0 = [.int .i64 l[i].2.1[0]] := elemAt_iv _ 0 h1
      have hne : l[i].2.1 ≠ [] := fun e => by rw [e] at h1; simp at h1
      have hg : l[i].2.1.getD 0 0 = l[i].2.1[0] := by simp [List.getD_eq_getElem?_getD, h1]
      rw [e0]
      refine gb_by (dt (by omega)) (gb_by rfl (brV_by (fun h2 => ?_) (fun h2 => ?_)))
      · have h2 : l[i].2.1[0] ≤ x := of_decide_eq_true h2
        rw [if_pos ⟨hne, by rw [hg]; exact h2⟩] at hst
        rw [hst] at nxt
        refine toCut (Eq.mpr (placeI_r l x i l.length i _) ?_)
        rw [i64_succ hlt (by omega)]
        exact nxt
      · have h2 : ¬ l[i].2.1[0] ≤ x := of_decide_eq_false h2
        rw [if_neg (fun hh => h2 (by rw [← hg]; exact hh.2))] at hst
        rw [hst] at nxt
        refine toCut (Eq.mpr (placeI_r l x (placeC (l.take i) x) l.length i _) ?_)
        rw [i64_succ hlt (by omega)]
        exact nxt
    · have h1 : ¬ 0 < l[i].2.1.length := by have := of_decide_eq_false h1; omega
      rw [if_neg (fun hh => hh.1 (List.eq_nil_of_length_eq_zero (by omega)))] at hst
      rw [hst] at nxt
      refine toCut (Eq.mpr (placeI_r l x (placeC (l.take i) x) l.length i _) ?_)
      rw [i64_succ hlt (by omega)]
      exact nxt
  · have hi' : i = l.length := by have := of_decide_eq_false h; omega
    subst hi'
    rw [List.take_length]
    refine leaveTo (toCut (Eq.mpr (placeZ_r (placeC l x) _) ?_))
    exact Wk.refl _
theorem place_ok : EntOk Try.prog placeE := by
  intro xs σ; simp only [placeE]; split
  · rename_i es s t x
    intro hc
    simp only [Bool.and_eq_true] at hc
    obtain ⟨h1, h2, h3, h4⟩ := hc
    exact pcall_of (.cons (wk_cks t h1 h2) (.refl _)) (place_c _ x (by simpa using lenM_of h3) (ckM_of h4)) (by simp only [noOutL, AVal.noOut, ckv_noOut, Bool.and_true]) (by simp only [noTokL, AVal.noTok, ckv_noTok, Bool.and_true, Tag.below]) rfl rfl
  · trivial
end Go.Proofs.Ytjdjecaclbdhhaa
end

section
namespace Go.Proofs.Ytjdjecaclbdhhaa
open Go.AL
set_option linter.unusedSimpArgs false
set_option linter.unusedVariables false
set_option maxHeartbeats 2000000
set_option maxRecDepth 20000

def sto1 (n : Int) : Sto := Sto.push Sto.empty (.cells [.int .i64 n])
theorem isN1_of {σ : Sto} {k : Nat} {n : Int} (h : isN1 σ k n = true) : k = 0 ∧ σ = sto1 n := by
  simp only [isN1, Bool.and_eq_true, hold_eq, decide_eq_true_eq, Nat.beq_eq] at h
  exact h
theorem n1Of_mk (n : Int) : n1Of (sto1 n) 0 = n := rfl
theorem isN1_mk (n : Int) : isN1 (sto1 n) 0 n = true := by
  simp [isN1, hold_eq, sto1]
theorem fresh1_ok : EntOk Try.prog fresh1E := by
  intro xs σ; simp only [fresh1E]; split
  · rename_i v k
    intro hc
    simp only [Bool.and_eq_true] at hc
    obtain ⟨h1, h2⟩ := hc
    generalize n1Of σ k = n at h2 ⊢
    obtain ⟨rfl, rfl⟩ := isN1_of h2
    refine ACall.args (args := [ckV (ckOf v), .ptr (.out 0) 0]) ?_ (.cons (wk_ck h1) (.refl _))
    exact fresh1_i (ckOf v) n _ (.of_none rfl) ⟨rfl, rfl⟩
  · trivial
theorem nosC_get (l : List Ck) (i : Nat) (h : i < l.length) : (nosC l)[i]'(by simpa [nosC] using h) = l[i].1 := by simp [nosC]
theorem indexF_c (l : List Ck) (x : Int) (hl : l.length ≤ 1000000) : ACall Try.prog 55 [.slice (ckv l) 4 .ro, .func (.func 50) [] [.ptr (.out 0) 0]] (sto1 x) fun r τ => r = .int .i64 (if (nosC l).contains x then ((nosC l).idxOf x : Int) else -1) ∧ τ = sto1 x := by
  refine indexF_i l x _ (.of [fresh1E] rfl ⟨fresh1_ok, trivial⟩) ?_
  have hn : (ckv l).length = l.length := ckv_length l
  have hnl : (nosC l).length = l.length := by simp [nosC]
  refine loopV_intro (α := Nat) (fun i => indexFL_S l x (ckv l).length i) (fun i => i ≤ l.length ∧ ∀ y ∈ (nosC l).take i, y ≠ x) (fun i => l.length - i) ?_ 0 ⟨Nat.zero_le _, fun x hx => by simp at hx⟩
  rintro i ⟨hi, hpre⟩ L hL
  refine Eq.mpr (indexFL_r l x _ i L _) ?_
  have e0 : n1Of (Sto.push Sto.empty (.cells [.int .i64 x])) 0 = x := rfl
  have e9 : isN1 (Sto.push Sto.empty (.cells [.int .i64 x])) 0 x = true := isN1_mk x
  simp only [hold_eq, e0, e9]
  refine brV_by (fun h => ?_) (fun h => ?_)
  · have hlt : i < l.length := by have := of_decide_eq_true h; omega
    rw [i64_succ hlt (by omega), elemAt_ckv l i hlt]
    refine gb_by (dt (by omega)) (gb_by rfl (gb_by (and_tt (iv_isI64 _) rfl) (brV_by (fun h => ?_) (fun h => ?_))))
    · have e : l[i].1 = x := by
        have h : (l[i].1 == x) = true := h
        simpa using h
      have hc : (nosC l).contains x = true := by
        rw [List.contains_iff_mem, ← e, ← nosC_get l i hlt]; exact List.getElem_mem _
      have hx : (nosC l).idxOf x = i := by
        unfold List.idxOf
        rw [List.findIdx_eq (by omega)]
        refine ⟨by rw [nosC_get l i hlt]; simp [e], fun j hj => ?_⟩
        have := hpre (nosC l)[j] (List.mem_take_iff_getElem.2 ⟨j, by omega, rfl⟩)
        simpa using this
      refine ⟨?_, rfl⟩
      rw [if_pos hc, hx]
      rfl
    · have e : l[i].1 ≠ x := by
        have h : (l[i].1 == x) = false := h
        simpa using h
      refine hL (i + 1) ⟨hlt, fun y hy => ?_⟩ (by omega)
      rw [List.take_succ_eq_append_getElem (by omega)] at hy
      rcases List.mem_append.1 hy with h1 | h1
      · exact hpre y h1
      · rw [List.mem_singleton, nosC_get l i hlt] at h1
        rw [h1]; exact e
  · have hge : ¬ i < l.length := by have := of_decide_eq_false h; omega
    rw [List.take_of_length_le (by omega)] at hpre
    have hc : ¬ (nosC l).contains x = true := by
      intro hc
      exact hpre x (by simpa using hc) rfl
    refine ⟨?_, rfl⟩
    rw [if_neg hc]
    rfl
theorem indexF_ok : EntOk Try.prog indexFE := by
  intro xs σ; simp only [indexFE]; split
  · rename_i es s t g k
    intro hc
    simp only [Bool.and_eq_true] at hc
    obtain ⟨hg, h1, h2, h3, h4⟩ := hc
    generalize n1Of σ k = n at h4 ⊢
    obtain ⟨rfl, rfl⟩ := isN1_of h4
    have hg : g = 50 := Nat.eq_of_beq_eq_true hg
    subst hg
    have h3 : (es.map ckOf).length ≤ 1000000 := by simpa using lenM_of h3
    exact ACall.args (indexF_c (es.map ckOf) n h3) (.cons (wk_cks t h1 h2) (.refl _))
  · trivial
theorem containsF_c (l : List Ck) (x : Int) (hl : l.length ≤ 1000000) : ACall Try.prog 49 [.slice (ckv l) 4 .ro, .func (.func 50) [] [.ptr (.out 0) 0]] (sto1 x) fun r τ => r = .bool (hold ((nosC l).contains x)) ∧ τ = sto1 x := by
  refine containsF_i l x _ (.of [indexFE] rfl ⟨indexF_ok, trivial⟩) ?_
  have hn : (ckv l).length = l.length := ckv_length l
  intro y hy i hi
  have e0 : n1Of (Sto.push Sto.empty (.cells [.int .i64 x])) 0 = x := rfl
  have e9 : isN1 (Sto.push Sto.empty (.cells [.int .i64 x])) 0 x = true := isN1_mk x
  rw [e0, map_ckOf] at hy hi
  rw [e0, e9]
  refine gb_by (and_tt (ckv_is l) (and_tt (lenM_mk (by omega)) rfl)) ⟨?_, rfl⟩
  rw [hold_eq, hold_eq, hi, hy]
  cases (nosC l).contains x
  · rfl
  · have : (0 : Int) ≤ ((nosC l).idxOf x : Int) := by omega
    simp [this]
theorem containsF_ok : EntOk Try.prog containsFE := by
  intro xs σ; simp only [containsFE]; split
  · rename_i es s t g k
    intro hc
    simp only [Bool.and_eq_true] at hc
    obtain ⟨hg, h1, h2, h3, h4⟩ := hc
    generalize n1Of σ k = n at h4 ⊢
    obtain ⟨rfl, rfl⟩ := isN1_of h4
    have hg : g = 50 := Nat.eq_of_beq_eq_true hg
    subst hg
    have h3 : (es.map ckOf).length ≤ 1000000 := by simpa using lenM_of h3
    exact ACall.args (containsF_c (es.map ckOf) n h3) (.cons (wk_cks t h1 h2) (.refl _))
  · trivial
theorem sto1_set (a b : Int) : Sto.set (Sto.push Sto.empty (.cells [.int .i64 a])) 0 (.cells [.int .i64 b]) = sto1 b := push_set0 _ _
theorem fresh_c (l : List Ck) (hl : l.length ≤ 1000000) : ACall Try.prog 32 [.slice (ckv l) 4 .ro] Sto.empty fun r _ => Wk r (.int .i64 (freeN (nosC l) : Int)) := by
  refine fresh_i l _ (.of [containsFE] rfl ⟨containsF_ok, trivial⟩) ?_
  have hn : (ckv l).length = l.length := ckv_length l
  have hnl : (nosC l).length = l.length := by simp [nosC]
  have hf := freeN_spec (nosC l)
  have hfl := freeN_le (nosC l)
  rw [sto1_set]
  show loopV _ _ _ (freshL_S l 1)
  refine loopV_intro (α := Nat) (fun n => freshL_S l n) (fun n => 1 ≤ n ∧ n ≤ freeN (nosC l)) (fun n => freeN (nosC l) - n) ?_ 1 ⟨Nat.le_refl _, hf.1⟩
  rintro n ⟨h1, h2⟩ L hL
  refine Eq.mpr (freshL_r l n L _) ?_
  have e0 : n1Of (Sto.push Sto.empty (.cells [.int .i64 (n : Int)])) 0 = (n : Int) := rfl
  have e9 : isN1 (Sto.push Sto.empty (.cells [.int .i64 (n : Int)])) 0 (n : Int) = true := isN1_mk (n : Int)
  simp only [hold_eq, e0, e9, map_ckOf]
  refine gb_by (and_tt (ckv_is l) (and_tt (lenM_mk (by omega)) rfl)) (brV_by (fun h => ?_) (fun h => ?_))
  · have hm : (n : Int) ∈ nosC l := by simpa using h
    have hlt : n < freeN (nosC l) := by
      rcases Nat.lt_or_ge n (freeN (nosC l)) with h3 | h3
      · exact h3
      · obtain rfl : n = freeN (nosC l) := by omega
        exact (hf.2.1 hm).elim
    rw [i64_succ hlt (by omega), sto1_set]
    exact hL (n + 1) ⟨by omega, hlt⟩ (by omega)
  · have hm : ¬ (n : Int) ∈ nosC l := by simpa using h
    have he : n = freeN (nosC l) := by
      rcases Nat.lt_or_ge n (freeN (nosC l)) with h3 | h3
      · exact (hm (hf.2.2 n h1 h3)).elim
      · omega
    refine leaveTo (toCut (Eq.mpr (freshZ_r n _) ?_))
    rw [he]; exact Wk.refl _
theorem fresh_ok : EntOk Try.prog freshE := by
  intro xs σ; simp only [freshE]; split
  · rename_i es s t
    intro hc
    simp only [Bool.and_eq_true] at hc
    obtain ⟨h1, h2, h3⟩ := hc
    exact pcall_of (.cons (wk_cks t h1 h2) (.refl _)) (fresh_c _ (by simpa using lenM_of h3)) (by simp only [noOutL, AVal.noOut, ckv_noOut, Bool.and_true]) (by simp only [noTokL, AVal.noTok, ckv_noTok, Bool.and_true, Tag.below]) rfl rfl
  · trivial
end Go.Proofs.Ytjdjecaclbdhhaa
end

section
set_option maxRecDepth 100000
set_option maxHeartbeats 0
set_option linter.unusedVariables false
namespace Go.Proofs.Ytjdjecaclbdhhaa
open Go.AL Go.Proofs
def isOvI (g : FuncId) : Bool := Nat.beq g 47
noncomputable def cCloneI : Cfg := { keep := [0, 2, 4], cut := [], out := [7], wr := [7] }
noncomputable def cInsI : Cfg := { keep := [0, 1, 2, 6, 7, 8, 9, 16, 22, 31, 68], cut := [], out := [25, 40], ext := isOvI }
noncomputable def cCloneIS : Cfg := { keep := [0, 2, 4], cut := [] }
noncomputable def cCloneC : Cfg := { keep := [0, 2, 4], cut := [] }
noncomputable def cOwnM : Cfg := { keep := [0, 1, 2], cut := [], orc := ofList [cloneIE] }
noncomputable def cOwnS : Cfg := { keep := [0, 1, 2], cut := [], orc := ofList [cloneISE] }
noncomputable def cApply : Cfg := { keep := [0, 1, 4, 5, 7, 8, 9, 10, 11, 16, 17, 18, 19, 38, 50], cut := [(7, [5, 16, 17, 18], [12]), (19, [5, 8, 9], [12]), (14, [5], [12]), (18, [5, 8, 9], [12])], orc := ofList [cloneCE, ownSE], grow := [(8, 4), (16, 1004)] }
noncomputable def code_10_ : Code := (Try.f10.body).getD .skip
noncomputable def code_28_ : Code := (Try.f28.body).getD .skip
noncomputable def code_31_ : Code := (Try.f31.body).getD .skip
noncomputable def code_33_ : Code := (Try.f33.body).getD .skip
noncomputable def code_34_ : Code := (Try.f34.body).getD .skip
noncomputable def code_10_1_1_1 : Code := codeAt code_10_ [1, 1, 1]
noncomputable def code_10_1_1_1_1_1 : Code := codeAt code_10_ [1, 1, 1, 1, 1]
noncomputable def code_10_1_1_0_1_0_0 : Code := codeAt code_10_ [1, 1, 0, 1, 0, 0]
noncomputable def code_10_1_1_1_1_1_0_0 : Code := codeAt code_10_ [1, 1, 1, 1, 1, 0, 0]
theorem cloneI_r (σ : Sto) (l : List Int) (Q : AVal → Sto → Prop) : vc Try.prog cCloneI code_33_ (endK Try.prog Try.f33.results.toList Q) (St.start Try.f33.ntmps [.slice (iv l) 1 .ro] (σ)) =
  (∀ (b : Bool), (b = true → List.isEmpty (iv l) = true) → (false = true → b = true) → brV (b == true) true (Q (AVal.slice [] 0 Tag.nil) σ) (brV (hold (decide (List.length (iv l) = 0))) true (Q (AVal.slice [] 1 Tag.full) σ) (gb (hold (decide ((0 + List.length (iv l)) * 8 ≤ 140737488355328 ∧ 0 + List.length (iv l) ≤ 9223372036854775807))) (∀ (k : Nat), 0 + List.length (iv l) + k ≤ 9223372036854775807 → gb (decide (AObj.noLoc (AObj.cells (flat (iv l) ++ List.replicate (k * 1) AVal.undef)) = true ∧ 7 < 8)) (Q (AVal.arr (Oid.out (Sto.nobj σ)) 0 (0 + List.length (iv l)) (0 + List.length (iv l) + k)) (Sto.push σ (AObj.cells (flat (iv l) ++ List.replicate (k * 1) AVal.undef)))))))) := by kernel_rfl
theorem cloneI_i (σ : Sto) (l : List Int) (Q : AVal → Sto → Prop) (ho : OrcOk Try.prog cCloneI) (h : ∀ (b : Bool), (b = true → List.isEmpty (iv l) = true) → (false = true → b = true) → brV (b == true) true (Q (AVal.slice [] 0 Tag.nil) σ) (brV (hold (decide (List.length (iv l) = 0))) true (Q (AVal.slice [] 1 Tag.full) σ) (gb (hold (decide ((0 + List.length (iv l)) * 8 ≤ 140737488355328 ∧ 0 + List.length (iv l) ≤ 9223372036854775807))) (∀ (k : Nat), 0 + List.length (iv l) + k ≤ 9223372036854775807 → gb (decide (AObj.noLoc (AObj.cells (flat (iv l) ++ List.replicate (k * 1) AVal.undef)) = true ∧ 7 < 8)) (Q (AVal.arr (Oid.out (Sto.nobj σ)) 0 (0 + List.length (iv l)) (0 + List.length (iv l) + k)) (Sto.push σ (AObj.cells (flat (iv l) ++ List.replicate (k * 1) AVal.undef)))))))) : ACall Try.prog 33 [.slice (iv l) 1 .ro] (σ) Q :=
  ACall.intro hmix Try.func33 (c := code_33_) (by kernel_rfl) cCloneI ho (Nat.le_of_ble_eq_true (by kernel_rfl)) (by rw [cloneI_r]; exact h)
theorem insI_r (cs : List AVal) (n c i : Nat) (x : Int) (Q : AVal → Sto → Prop) : vc Try.prog cInsI code_31_ (endK Try.prog Try.f31.results.toList Q) (St.start Try.f31.ntmps [.arr (.out 0) 0 n c, .int .i64 (i : Int), .slice [.int .i64 x] 1 .ro] (Sto.one (.cells cs))) =
  (gb (decide ((0 : Int) ≤ (↑i : Int) ∧ (↑i : Int) ≤ (↑n : Int) ∧ (↑n : Int) ≤ (↑c : Int))) (brV (hold false) true (Q (AVal.arr (Oid.out 0) 0 n c) (Sto.one (AObj.cells cs))) (brV (hold ((↑i : Int) == (↑n : Int))) true (gb (decide (0 + n * 1 ≤ List.length cs)) (brV (hold (decide (n + 1 ≤ c))) true (gb (decide (decide (true = true ∧ n + 1 ≤ c ∧ 0 + (n + 1) * 1 ≤ List.length cs ∧ (Oid.isOut (Oid.out 0) = true → noLocL (flat [AVal.int IntKind.i64 x]) = true)) = true ∧ true = true)) (Q (AVal.arr (Oid.out 0) 0 (n + 1) c) (Sto.set (Sto.one (AObj.cells cs)) 0 (AObj.cells (setRange cs (0 + n * 1) [AVal.int IntKind.i64 x]))))) (gb (hold (decide ((n + 1) * 8 ≤ 140737488355328 ∧ n + 1 ≤ 9223372036854775807))) (∀ (k : Nat), n + 1 + k ≤ 9223372036854775807 → gb (decide (AObj.noLoc (AObj.cells (List.take (n * 1) cs ++ [AVal.int IntKind.i64 x] ++ List.replicate (k * 1) AVal.undef)) = true ∧ 25 < 95)) (Q (AVal.arr (Oid.out 1) 0 (n + 1) (n + 1 + k)) (Sto.push (Sto.one (AObj.cells cs)) (AObj.cells (List.take (n * 1) cs ++ [AVal.int IntKind.i64 x] ++ List.replicate (k * 1) AVal.undef)))))))) (brV (hold (decide ((↑c : Int) < IntKind.wrap IntKind.i64 ((↑n : Int) + (↑(1 : Nat) : Int))))) true (gb (decide ((0 : Int) ≤ (0 : Int) ∧ (0 : Int) ≤ (↑i : Int) ∧ (↑i : Int) ≤ (↑c : Int))) (gb (hold (decide ((1 : Int) ≤ IntKind.wrap IntKind.i64 (IntKind.wrap IntKind.i64 ((↑n : Int) + (↑(1 : Nat) : Int)) - (↑i : Int)) ∧ IntKind.wrap IntKind.i64 (IntKind.wrap IntKind.i64 ((↑n : Int) + (↑(1 : Nat) : Int)) - (↑i : Int)) ≤ (1000000000000 : Int) ∧ c - 0 < Int.toNat (↑i : Int) - 0 + Int.toNat (IntKind.wrap IntKind.i64 (IntKind.wrap IntKind.i64 ((↑n : Int) + (↑(1 : Nat) : Int)) - (↑i : Int))))) && decide (0 + (Int.toNat (↑i : Int) - 0) * 1 ≤ List.length cs)) (gb (hold (decide ((Int.toNat (↑i : Int) - 0 + Int.toNat (IntKind.wrap IntKind.i64 (IntKind.wrap IntKind.i64 ((↑n : Int) + (↑(1 : Nat) : Int)) - (↑i : Int)))) * 8 ≤ 140737488355328 ∧ Int.toNat (↑i : Int) - 0 + Int.toNat (IntKind.wrap IntKind.i64 (IntKind.wrap IntKind.i64 ((↑n : Int) + (↑(1 : Nat) : Int)) - (↑i : Int))) ≤ 9223372036854775807))) (∀ (k : Nat), Int.toNat (↑i : Int) - 0 + Int.toNat (IntKind.wrap IntKind.i64 (IntKind.wrap IntKind.i64 ((↑n : Int) + (↑(1 : Nat) : Int)) - (↑i : Int))) + k ≤ 9223372036854775807 → gb (decide (AObj.noLoc (AObj.cells (List.take ((Int.toNat (↑i : Int) - 0) * 1) cs ++ flat (List.replicate (Int.toNat (IntKind.wrap IntKind.i64 (IntKind.wrap IntKind.i64 ((↑n : Int) + (↑(1 : Nat) : Int)) - (↑i : Int)))) (AVal.int IntKind.i64 (0 : Int))) ++ List.replicate (k * 1) AVal.undef)) = true ∧ 40 < 95)) (gb (decide ((0 : Int) ≤ (↑i : Int) ∧ (↑i : Int) ≤ (↑(Int.toNat (↑i : Int) - 0 + Int.toNat (IntKind.wrap IntKind.i64 (IntKind.wrap IntKind.i64 ((↑n : Int) + (↑(1 : Nat) : Int)) - (↑i : Int)))) : Int) ∧ (↑(Int.toNat (↑i : Int) - 0 + Int.toNat (IntKind.wrap IntKind.i64 (IntKind.wrap IntKind.i64 ((↑n : Int) + (↑(1 : Nat) : Int)) - (↑i : Int)))) : Int) ≤ (↑(Int.toNat (↑i : Int) - 0 + Int.toNat (IntKind.wrap IntKind.i64 (IntKind.wrap IntKind.i64 ((↑n : Int) + (↑(1 : Nat) : Int)) - (↑i : Int))) + k) : Int))) (gb (decide (decide (true = true ∧ 0 + Int.toNat (↑i : Int) * 1 + Min.min 1 (Int.toNat (↑(Int.toNat (↑i : Int) - 0 + Int.toNat (IntKind.wrap IntKind.i64 (IntKind.wrap IntKind.i64 ((↑n : Int) + (↑(1 : Nat) : Int)) - (↑i : Int)))) : Int) - Int.toNat (↑i : Int)) * 1 ≤ List.length (List.take ((Int.toNat (↑i : Int) - 0) * 1) cs ++ flat (List.replicate (Int.toNat (IntKind.wrap IntKind.i64 (IntKind.wrap IntKind.i64 ((↑n : Int) + (↑(1 : Nat) : Int)) - (↑i : Int)))) (AVal.int IntKind.i64 (0 : Int))) ++ List.replicate (k * 1) AVal.undef) ∧ (Oid.isOut (Oid.out 1) = true → noLocL (List.take (Min.min (List.length [AVal.int IntKind.i64 x]) (Int.toNat (↑(Int.toNat (↑i : Int) - 0 + Int.toNat (IntKind.wrap IntKind.i64 (IntKind.wrap IntKind.i64 ((↑n : Int) + (↑(1 : Nat) : Int)) - (↑i : Int)))) : Int) - Int.toNat (↑i : Int)) * Go.TypeInfo.size (Go.Tables.types (Go.Program.toTables Try.prog))[3]) (flat [AVal.int IntKind.i64 x])) = true)) = true ∧ true = true)) (gb (decide ((0 : Int) ≤ IntKind.wrap IntKind.i64 ((↑i : Int) + (↑(1 : Nat) : Int)) ∧ IntKind.wrap IntKind.i64 ((↑i : Int) + (↑(1 : Nat) : Int)) ≤ (↑(Int.toNat (↑i : Int) - 0 + Int.toNat (IntKind.wrap IntKind.i64 (IntKind.wrap IntKind.i64 ((↑n : Int) + (↑(1 : Nat) : Int)) - (↑i : Int)))) : Int) ∧ (↑(Int.toNat (↑i : Int) - 0 + Int.toNat (IntKind.wrap IntKind.i64 (IntKind.wrap IntKind.i64 ((↑n : Int) + (↑(1 : Nat) : Int)) - (↑i : Int)))) : Int) ≤ (↑(Int.toNat (↑i : Int) - 0 + Int.toNat (IntKind.wrap IntKind.i64 (IntKind.wrap IntKind.i64 ((↑n : Int) + (↑(1 : Nat) : Int)) - (↑i : Int))) + k) : Int))) (gb (decide ((0 : Int) ≤ (↑i : Int) ∧ (↑i : Int) ≤ (↑n : Int) ∧ (↑n : Int) ≤ (↑c : Int))) (gb (decide (decide (decide (0 + Int.toNat (↑i : Int) * 1 + (Int.toNat (↑n : Int) - Int.toNat (↑i : Int)) * 1 ≤ List.length cs) = true ∧ 0 + Int.toNat (IntKind.wrap IntKind.i64 ((↑i : Int) + (↑(1 : Nat) : Int))) * 1 + Min.min (Int.toNat (↑n : Int) - Int.toNat (↑i : Int)) (Int.toNat (↑(Int.toNat (↑i : Int) - 0 + Int.toNat (IntKind.wrap IntKind.i64 (IntKind.wrap IntKind.i64 ((↑n : Int) + (↑(1 : Nat) : Int)) - (↑i : Int)))) : Int) - Int.toNat (IntKind.wrap IntKind.i64 ((↑i : Int) + (↑(1 : Nat) : Int)))) * 1 ≤ List.length (setRange (List.take ((Int.toNat (↑i : Int) - 0) * 1) cs ++ flat (List.replicate (Int.toNat (IntKind.wrap IntKind.i64 (IntKind.wrap IntKind.i64 ((↑n : Int) + (↑(1 : Nat) : Int)) - (↑i : Int)))) (AVal.int IntKind.i64 (0 : Int))) ++ List.replicate (k * 1) AVal.undef) (0 + Int.toNat (↑i : Int) * 1) (List.take (Min.min 1 (Int.toNat (↑(Int.toNat (↑i : Int) - 0 + Int.toNat (IntKind.wrap IntKind.i64 (IntKind.wrap IntKind.i64 ((↑n : Int) + (↑(1 : Nat) : Int)) - (↑i : Int)))) : Int) - Int.toNat (↑i : Int)) * 1) [AVal.int IntKind.i64 x])) ∧ (Oid.isOut (Oid.out 1) = true → noLocL (List.take (Min.min (Int.toNat (↑n : Int) - Int.toNat (↑i : Int)) (Int.toNat (↑(Int.toNat (↑i : Int) - 0 + Int.toNat (IntKind.wrap IntKind.i64 (IntKind.wrap IntKind.i64 ((↑n : Int) + (↑(1 : Nat) : Int)) - (↑i : Int)))) : Int) - Int.toNat (IntKind.wrap IntKind.i64 ((↑i : Int) + (↑(1 : Nat) : Int)))) * Go.TypeInfo.size (Go.Tables.types (Go.Program.toTables Try.prog))[3]) (List.take ((Int.toNat (↑n : Int) - Int.toNat (↑i : Int)) * Go.TypeInfo.size (Go.Tables.types (Go.Program.toTables Try.prog))[3]) (List.drop (0 + Int.toNat (↑i : Int) * 1) cs))) = true)) = true ∧ true = true)) (Q (AVal.arr (Oid.out 1) 0 (Int.toNat (↑i : Int) - 0 + Int.toNat (IntKind.wrap IntKind.i64 (IntKind.wrap IntKind.i64 ((↑n : Int) + (↑(1 : Nat) : Int)) - (↑i : Int)))) (Int.toNat (↑i : Int) - 0 + Int.toNat (IntKind.wrap IntKind.i64 (IntKind.wrap IntKind.i64 ((↑n : Int) + (↑(1 : Nat) : Int)) - (↑i : Int))) + k)) (Sto.set (Sto.set (Sto.push (Sto.one (AObj.cells cs)) (AObj.cells (List.take ((Int.toNat (↑i : Int) - 0) * 1) cs ++ flat (List.replicate (Int.toNat (IntKind.wrap IntKind.i64 (IntKind.wrap IntKind.i64 ((↑n : Int) + (↑(1 : Nat) : Int)) - (↑i : Int)))) (AVal.int IntKind.i64 (0 : Int))) ++ List.replicate (k * 1) AVal.undef))) 1 (AObj.cells (setRange (List.take ((Int.toNat (↑i : Int) - 0) * 1) cs ++ flat (List.replicate (Int.toNat (IntKind.wrap IntKind.i64 (IntKind.wrap IntKind.i64 ((↑n : Int) + (↑(1 : Nat) : Int)) - (↑i : Int)))) (AVal.int IntKind.i64 (0 : Int))) ++ List.replicate (k * 1) AVal.undef) (0 + Int.toNat (↑i : Int) * 1) (List.take (Min.min 1 (Int.toNat (↑(Int.toNat (↑i : Int) - 0 + Int.toNat (IntKind.wrap IntKind.i64 (IntKind.wrap IntKind.i64 ((↑n : Int) + (↑(1 : Nat) : Int)) - (↑i : Int)))) : Int) - Int.toNat (↑i : Int)) * 1) [AVal.int IntKind.i64 x])))) 1 (AObj.cells (setRange (setRange (List.take ((Int.toNat (↑i : Int) - 0) * 1) cs ++ flat (List.replicate (Int.toNat (IntKind.wrap IntKind.i64 (IntKind.wrap IntKind.i64 ((↑n : Int) + (↑(1 : Nat) : Int)) - (↑i : Int)))) (AVal.int IntKind.i64 (0 : Int))) ++ List.replicate (k * 1) AVal.undef) (0 + Int.toNat (↑i : Int) * 1) (List.take (Min.min 1 (Int.toNat (↑(Int.toNat (↑i : Int) - 0 + Int.toNat (IntKind.wrap IntKind.i64 (IntKind.wrap IntKind.i64 ((↑n : Int) + (↑(1 : Nat) : Int)) - (↑i : Int)))) : Int) - Int.toNat (↑i : Int)) * 1) [AVal.int IntKind.i64 x])) (0 + Int.toNat (IntKind.wrap IntKind.i64 ((↑i : Int) + (↑(1 : Nat) : Int))) * 1) (List.take (Min.min (Int.toNat (↑n : Int) - Int.toNat (↑i : Int)) (Int.toNat (↑(Int.toNat (↑i : Int) - 0 + Int.toNat (IntKind.wrap IntKind.i64 (IntKind.wrap IntKind.i64 ((↑n : Int) + (↑(1 : Nat) : Int)) - (↑i : Int)))) : Int) - Int.toNat (IntKind.wrap IntKind.i64 ((↑i : Int) + (↑(1 : Nat) : Int)))) * 1) (List.take ((Int.toNat (↑n : Int) - Int.toNat (↑i : Int)) * 1) (List.drop (0 + Int.toNat (↑i : Int) * 1) cs)))))))))))))))) (gb (decide ((0 : Int) ≤ (0 : Int) ∧ (0 : Int) ≤ IntKind.wrap IntKind.i64 ((↑n : Int) + (↑(1 : Nat) : Int)) ∧ IntKind.wrap IntKind.i64 ((↑n : Int) + (↑(1 : Nat) : Int)) ≤ (↑c : Int))) (gb (decide ((0 : Int) ≤ IntKind.wrap IntKind.i64 ((↑i : Int) + (↑(1 : Nat) : Int)) ∧ IntKind.wrap IntKind.i64 ((↑i : Int) + (↑(1 : Nat) : Int)) ≤ (↑(Int.toNat (IntKind.wrap IntKind.i64 ((↑n : Int) + (↑(1 : Nat) : Int))) - 0) : Int) ∧ (↑(Int.toNat (IntKind.wrap IntKind.i64 ((↑n : Int) + (↑(1 : Nat) : Int))) - 0) : Int) ≤ (↑(c - 0) : Int))) (gb (decide (0 < 1 ∧ 0 + Int.toNat (IntKind.wrap IntKind.i64 ((↑i : Int) + (↑(1 : Nat) : Int))) * 1 + (Int.toNat (↑(Int.toNat (IntKind.wrap IntKind.i64 ((↑n : Int) + (↑(1 : Nat) : Int))) - 0) : Int) - Int.toNat (IntKind.wrap IntKind.i64 ((↑i : Int) + (↑(1 : Nat) : Int)))) ≤ List.length cs)) (gb (decide ((0 : Int) ≤ IntKind.wrap IntKind.i64 ((↑i : Int) + (↑(1 : Nat) : Int)) ∧ IntKind.wrap IntKind.i64 ((↑i : Int) + (↑(1 : Nat) : Int)) ≤ (↑(Int.toNat (IntKind.wrap IntKind.i64 ((↑n : Int) + (↑(1 : Nat) : Int))) - 0) : Int) ∧ (↑(Int.toNat (IntKind.wrap IntKind.i64 ((↑n : Int) + (↑(1 : Nat) : Int))) - 0) : Int) ≤ (↑(c - 0) : Int))) (gb (decide ((0 : Int) ≤ (↑i : Int) ∧ (↑i : Int) ≤ (↑(Int.toNat (IntKind.wrap IntKind.i64 ((↑n : Int) + (↑(1 : Nat) : Int))) - 0) : Int) ∧ (↑(Int.toNat (IntKind.wrap IntKind.i64 ((↑n : Int) + (↑(1 : Nat) : Int))) - 0) : Int) ≤ (↑(c - 0) : Int))) (gb (decide (decide (decide (0 + Int.toNat (↑i : Int) * 1 + (Int.toNat (↑(Int.toNat (IntKind.wrap IntKind.i64 ((↑n : Int) + (↑(1 : Nat) : Int))) - 0) : Int) - Int.toNat (↑i : Int)) * 1 ≤ List.length cs) = true ∧ 0 + Int.toNat (IntKind.wrap IntKind.i64 ((↑i : Int) + (↑(1 : Nat) : Int))) * 1 + Min.min (Int.toNat (↑(Int.toNat (IntKind.wrap IntKind.i64 ((↑n : Int) + (↑(1 : Nat) : Int))) - 0) : Int) - Int.toNat (↑i : Int)) (Int.toNat (↑(Int.toNat (IntKind.wrap IntKind.i64 ((↑n : Int) + (↑(1 : Nat) : Int))) - 0) : Int) - Int.toNat (IntKind.wrap IntKind.i64 ((↑i : Int) + (↑(1 : Nat) : Int)))) * 1 ≤ List.length cs ∧ (Oid.isOut (Oid.out 0) = true → noLocL (List.take (Min.min (Int.toNat (↑(Int.toNat (IntKind.wrap IntKind.i64 ((↑n : Int) + (↑(1 : Nat) : Int))) - 0) : Int) - Int.toNat (↑i : Int)) (Int.toNat (↑(Int.toNat (IntKind.wrap IntKind.i64 ((↑n : Int) + (↑(1 : Nat) : Int))) - 0) : Int) - Int.toNat (IntKind.wrap IntKind.i64 ((↑i : Int) + (↑(1 : Nat) : Int)))) * Go.TypeInfo.size (Go.Tables.types (Go.Program.toTables Try.prog))[3]) (List.take ((Int.toNat (↑(Int.toNat (IntKind.wrap IntKind.i64 ((↑n : Int) + (↑(1 : Nat) : Int))) - 0) : Int) - Int.toNat (↑i : Int)) * Go.TypeInfo.size (Go.Tables.types (Go.Program.toTables Try.prog))[3]) (List.drop (0 + Int.toNat (↑i : Int) * 1) cs))) = true)) = true ∧ true = true)) (gb (decide ((0 : Int) ≤ (↑i : Int) ∧ (↑i : Int) ≤ (↑(Int.toNat (IntKind.wrap IntKind.i64 ((↑n : Int) + (↑(1 : Nat) : Int))) - 0) : Int) ∧ (↑(Int.toNat (IntKind.wrap IntKind.i64 ((↑n : Int) + (↑(1 : Nat) : Int))) - 0) : Int) ≤ (↑(c - 0) : Int))) (gb (decide (decide (true = true ∧ 0 + Int.toNat (↑i : Int) * 1 + Min.min 1 (Int.toNat (↑(Int.toNat (IntKind.wrap IntKind.i64 ((↑n : Int) + (↑(1 : Nat) : Int))) - 0) : Int) - Int.toNat (↑i : Int)) * 1 ≤ List.length (setRange cs (0 + Int.toNat (IntKind.wrap IntKind.i64 ((↑i : Int) + (↑(1 : Nat) : Int))) * 1) (List.take (Min.min (Int.toNat (↑(Int.toNat (IntKind.wrap IntKind.i64 ((↑n : Int) + (↑(1 : Nat) : Int))) - 0) : Int) - Int.toNat (↑i : Int)) (Int.toNat (↑(Int.toNat (IntKind.wrap IntKind.i64 ((↑n : Int) + (↑(1 : Nat) : Int))) - 0) : Int) - Int.toNat (IntKind.wrap IntKind.i64 ((↑i : Int) + (↑(1 : Nat) : Int)))) * 1) (List.take ((Int.toNat (↑(Int.toNat (IntKind.wrap IntKind.i64 ((↑n : Int) + (↑(1 : Nat) : Int))) - 0) : Int) - Int.toNat (↑i : Int)) * 1) (List.drop (0 + Int.toNat (↑i : Int) * 1) cs)))) ∧ (Oid.isOut (Oid.out 0) = true → noLocL (List.take (Min.min (List.length [AVal.int IntKind.i64 x]) (Int.toNat (↑(Int.toNat (IntKind.wrap IntKind.i64 ((↑n : Int) + (↑(1 : Nat) : Int))) - 0) : Int) - Int.toNat (↑i : Int)) * Go.TypeInfo.size (Go.Tables.types (Go.Program.toTables Try.prog))[3]) (flat [AVal.int IntKind.i64 x])) = true)) = true ∧ true = true)) (Q (AVal.arr (Oid.out 0) 0 (Int.toNat (IntKind.wrap IntKind.i64 ((↑n : Int) + (↑(1 : Nat) : Int))) - 0) (c - 0)) (Sto.set (Sto.set (Sto.one (AObj.cells cs)) 0 (AObj.cells (setRange cs (0 + Int.toNat (IntKind.wrap IntKind.i64 ((↑i : Int) + (↑(1 : Nat) : Int))) * 1) (List.take (Min.min (Int.toNat (↑(Int.toNat (IntKind.wrap IntKind.i64 ((↑n : Int) + (↑(1 : Nat) : Int))) - 0) : Int) - Int.toNat (↑i : Int)) (Int.toNat (↑(Int.toNat (IntKind.wrap IntKind.i64 ((↑n : Int) + (↑(1 : Nat) : Int))) - 0) : Int) - Int.toNat (IntKind.wrap IntKind.i64 ((↑i : Int) + (↑(1 : Nat) : Int)))) * 1) (List.take ((Int.toNat (↑(Int.toNat (IntKind.wrap IntKind.i64 ((↑n : Int) + (↑(1 : Nat) : Int))) - 0) : Int) - Int.toNat (↑i : Int)) * 1) (List.drop (0 + Int.toNat (↑i : Int) * 1) cs)))))) 0 (AObj.cells (setRange (setRange cs (0 + Int.toNat (IntKind.wrap IntKind.i64 ((↑i : Int) + (↑(1 : Nat) : Int))) * 1) (List.take (Min.min (Int.toNat (↑(Int.toNat (IntKind.wrap IntKind.i64 ((↑n : Int) + (↑(1 : Nat) : Int))) - 0) : Int) - Int.toNat (↑i : Int)) (Int.toNat (↑(Int.toNat (IntKind.wrap IntKind.i64 ((↑n : Int) + (↑(1 : Nat) : Int))) - 0) : Int) - Int.toNat (IntKind.wrap IntKind.i64 ((↑i : Int) + (↑(1 : Nat) : Int)))) * 1) (List.take ((Int.toNat (↑(Int.toNat (IntKind.wrap IntKind.i64 ((↑n : Int) + (↑(1 : Nat) : Int))) - 0) : Int) - Int.toNat (↑i : Int)) * 1) (List.drop (0 + Int.toNat (↑i : Int) * 1) cs)))) (0 + Int.toNat (↑i : Int) * 1) (List.take (Min.min 1 (Int.toNat (↑(Int.toNat (IntKind.wrap IntKind.i64 ((↑n : Int) + (↑(1 : Nat) : Int))) - 0) : Int) - Int.toNat (↑i : Int)) * 1) [AVal.int IntKind.i64 x]))))))))))))))))) := by kernel_rfl
theorem insI_i (cs : List AVal) (n c i : Nat) (x : Int) (Q : AVal → Sto → Prop) (ho : OrcOk Try.prog cInsI) (h : gb (decide ((0 : Int) ≤ (↑i : Int) ∧ (↑i : Int) ≤ (↑n : Int) ∧ (↑n : Int) ≤ (↑c : Int))) (brV (hold false) true (Q (AVal.arr (Oid.out 0) 0 n c) (Sto.one (AObj.cells cs))) (brV (hold ((↑i : Int) == (↑n : Int))) true (gb (decide (0 + n * 1 ≤ List.length cs)) (brV (hold (decide (n + 1 ≤ c))) true (gb (decide (decide (true = true ∧ n + 1 ≤ c ∧ 0 + (n + 1) * 1 ≤ List.length cs ∧ (Oid.isOut (Oid.out 0) = true → noLocL (flat [AVal.int IntKind.i64 x]) = true)) = true ∧ true = true)) (Q (AVal.arr (Oid.out 0) 0 (n + 1) c) (Sto.set (Sto.one (AObj.cells cs)) 0 (AObj.cells (setRange cs (0 + n * 1) [AVal.int IntKind.i64 x]))))) (gb (hold (decide ((n + 1) * 8 ≤ 140737488355328 ∧ n + 1 ≤ 9223372036854775807))) (∀ (k : Nat), n + 1 + k ≤ 9223372036854775807 → gb (decide (AObj.noLoc (AObj.cells (List.take (n * 1) cs ++ [AVal.int IntKind.i64 x] ++ List.replicate (k * 1) AVal.undef)) = true ∧ 25 < 95)) (Q (AVal.arr (Oid.out 1) 0 (n + 1) (n + 1 + k)) (Sto.push (Sto.one (AObj.cells cs)) (AObj.cells (List.take (n * 1) cs ++ [AVal.int IntKind.i64 x] ++ List.replicate (k * 1) AVal.undef)))))))) (brV (hold (decide ((↑c : Int) < IntKind.wrap IntKind.i64 ((↑n : Int) + (↑(1 : Nat) : Int))))) true (gb (decide ((0 : Int) ≤ (0 : Int) ∧ (0 : Int) ≤ (↑i : Int) ∧ (↑i : Int) ≤ (↑c : Int))) (gb (hold (decide ((1 : Int) ≤ IntKind.wrap IntKind.i64 (IntKind.wrap IntKind.i64 ((↑n : Int) + (↑(1 : Nat) : Int)) - (↑i : Int)) ∧ IntKind.wrap IntKind.i64 (IntKind.wrap IntKind.i64 ((↑n : Int) + (↑(1 : Nat) : Int)) - (↑i : Int)) ≤ (1000000000000 : Int) ∧ c - 0 < Int.toNat (↑i : Int) - 0 + Int.toNat (IntKind.wrap IntKind.i64 (IntKind.wrap IntKind.i64 ((↑n : Int) + (↑(1 : Nat) : Int)) - (↑i : Int))))) && decide (0 + (Int.toNat (↑i : Int) - 0) * 1 ≤ List.length cs)) (gb (hold (decide ((Int.toNat (↑i : Int) - 0 + Int.toNat (IntKind.wrap IntKind.i64 (IntKind.wrap IntKind.i64 ((↑n : Int) + (↑(1 : Nat) : Int)) - (↑i : Int)))) * 8 ≤ 140737488355328 ∧ Int.toNat (↑i : Int) - 0 + Int.toNat (IntKind.wrap IntKind.i64 (IntKind.wrap IntKind.i64 ((↑n : Int) + (↑(1 : Nat) : Int)) - (↑i : Int))) ≤ 9223372036854775807))) (∀ (k : Nat), Int.toNat (↑i : Int) - 0 + Int.toNat (IntKind.wrap IntKind.i64 (IntKind.wrap IntKind.i64 ((↑n : Int) + (↑(1 : Nat) : Int)) - (↑i : Int))) + k ≤ 9223372036854775807 → gb (decide (AObj.noLoc (AObj.cells (List.take ((Int.toNat (↑i : Int) - 0) * 1) cs ++ flat (List.replicate (Int.toNat (IntKind.wrap IntKind.i64 (IntKind.wrap IntKind.i64 ((↑n : Int) + (↑(1 : Nat) : Int)) - (↑i : Int)))) (AVal.int IntKind.i64 (0 : Int))) ++ List.replicate (k * 1) AVal.undef)) = true ∧ 40 < 95)) (gb (decide ((0 : Int) ≤ (↑i : Int) ∧ (↑i : Int) ≤ (↑(Int.toNat (↑i : Int) - 0 + Int.toNat (IntKind.wrap IntKind.i64 (IntKind.wrap IntKind.i64 ((↑n : Int) + (↑(1 : Nat) : Int)) - (↑i : Int)))) : Int) ∧ (↑(Int.toNat (↑i : Int) - 0 + Int.toNat (IntKind.wrap IntKind.i64 (IntKind.wrap IntKind.i64 ((↑n : Int) + (↑(1 : Nat) : Int)) - (↑i : Int)))) : Int) ≤ (↑(Int.toNat (↑i : Int) - 0 + Int.toNat (IntKind.wrap IntKind.i64 (IntKind.wrap IntKind.i64 ((↑n : Int) + (↑(1 : Nat) : Int)) - (↑i : Int))) + k) : Int))) (gb (decide (decide (true = true ∧ 0 + Int.toNat (↑i : Int) * 1 + Min.min 1 (Int.toNat (↑(Int.toNat (↑i : Int) - 0 + Int.toNat (IntKind.wrap IntKind.i64 (IntKind.wrap IntKind.i64 ((↑n : Int) + (↑(1 : Nat) : Int)) - (↑i : Int)))) : Int) - Int.toNat (↑i : Int)) * 1 ≤ List.length (List.take ((Int.toNat (↑i : Int) - 0) * 1) cs ++ flat (List.replicate (Int.toNat (IntKind.wrap IntKind.i64 (IntKind.wrap IntKind.i64 ((↑n : Int) + (↑(1 : Nat) : Int)) - (↑i : Int)))) (AVal.int IntKind.i64 (0 : Int))) ++ List.replicate (k * 1) AVal.undef) ∧ (Oid.isOut (Oid.out 1) = true → noLocL (List.take (Min.min (List.length [AVal.int IntKind.i64 x]) (Int.toNat (↑(Int.toNat (↑i : Int) - 0 + Int.toNat (IntKind.wrap IntKind.i64 (IntKind.wrap IntKind.i64 ((↑n : Int) + (↑(1 : Nat) : Int)) - (↑i : Int)))) : Int) - Int.toNat (↑i : Int)) * Go.TypeInfo.size (Go.Tables.types (Go.Program.toTables Try.prog))[3]) (flat [AVal.int IntKind.i64 x])) = true)) = true ∧ true = true)) (gb (decide ((0 : Int) ≤ IntKind.wrap IntKind.i64 ((↑i : Int) + (↑(1 : Nat) : Int)) ∧ IntKind.wrap IntKind.i64 ((↑i : Int) + (↑(1 : Nat) : Int)) ≤ (↑(Int.toNat (↑i : Int) - 0 + Int.toNat (IntKind.wrap IntKind.i64 (IntKind.wrap IntKind.i64 ((↑n : Int) + (↑(1 : Nat) : Int)) - (↑i : Int)))) : Int) ∧ (↑(Int.toNat (↑i : Int) - 0 + Int.toNat (IntKind.wrap IntKind.i64 (IntKind.wrap IntKind.i64 ((↑n : Int) + (↑(1 : Nat) : Int)) - (↑i : Int)))) : Int) ≤ (↑(Int.toNat (↑i : Int) - 0 + Int.toNat (IntKind.wrap IntKind.i64 (IntKind.wrap IntKind.i64 ((↑n : Int) + (↑(1 : Nat) : Int)) - (↑i : Int))) + k) : Int))) (gb (decide ((0 : Int) ≤ (↑i : Int) ∧ (↑i : Int) ≤ (↑n : Int) ∧ (↑n : Int) ≤ (↑c : Int))) (gb (decide (decide (decide (0 + Int.toNat (↑i : Int) * 1 + (Int.toNat (↑n : Int) - Int.toNat (↑i : Int)) * 1 ≤ List.length cs) = true ∧ 0 + Int.toNat (IntKind.wrap IntKind.i64 ((↑i : Int) + (↑(1 : Nat) : Int))) * 1 + Min.min (Int.toNat (↑n : Int) - Int.toNat (↑i : Int)) (Int.toNat (↑(Int.toNat (↑i : Int) - 0 + Int.toNat (IntKind.wrap IntKind.i64 (IntKind.wrap IntKind.i64 ((↑n : Int) + (↑(1 : Nat) : Int)) - (↑i : Int)))) : Int) - Int.toNat (IntKind.wrap IntKind.i64 ((↑i : Int) + (↑(1 : Nat) : Int)))) * 1 ≤ List.length (setRange (List.take ((Int.toNat (↑i : Int) - 0) * 1) cs ++ flat (List.replicate (Int.toNat (IntKind.wrap IntKind.i64 (IntKind.wrap IntKind.i64 ((↑n : Int) + (↑(1 : Nat) : Int)) - (↑i : Int)))) (AVal.int IntKind.i64 (0 : Int))) ++ List.replicate (k * 1) AVal.undef) (0 + Int.toNat (↑i : Int) * 1) (List.take (Min.min 1 (Int.toNat (↑(Int.toNat (↑i : Int) - 0 + Int.toNat (IntKind.wrap IntKind.i64 (IntKind.wrap IntKind.i64 ((↑n : Int) + (↑(1 : Nat) : Int)) - (↑i : Int)))) : Int) - Int.toNat (↑i : Int)) * 1) [AVal.int IntKind.i64 x])) ∧ (Oid.isOut (Oid.out 1) = true → noLocL (List.take (Min.min (Int.toNat (↑n : Int) - Int.toNat (↑i : Int)) (Int.toNat (↑(Int.toNat (↑i : Int) - 0 + Int.toNat (IntKind.wrap IntKind.i64 (IntKind.wrap IntKind.i64 ((↑n : Int) + (↑(1 : Nat) : Int)) - (↑i : Int)))) : Int) - Int.toNat (IntKind.wrap IntKind.i64 ((↑i : Int) + (↑(1 : Nat) : Int)))) * Go.TypeInfo.size (Go.Tables.types (Go.Program.toTables Try.prog))[3]) (List.take ((Int.toNat (↑n : Int) - Int.toNat (↑i : Int)) * Go.TypeInfo.size (Go.Tables.types (Go.Program.toTables Try.prog))[3]) (List.drop (0 + Int.toNat (↑i : Int) * 1) cs))) = true)) = true ∧ true = true)) (Q (AVal.arr (Oid.out 1) 0 (Int.toNat (↑i : Int) - 0 + Int.toNat (IntKind.wrap IntKind.i64 (IntKind.wrap IntKind.i64 ((↑n : Int) + (↑(1 : Nat) : Int)) - (↑i : Int)))) (Int.toNat (↑i : Int) - 0 + Int.toNat (IntKind.wrap IntKind.i64 (IntKind.wrap IntKind.i64 ((↑n : Int) + (↑(1 : Nat) : Int)) - (↑i : Int))) + k)) (Sto.set (Sto.set (Sto.push (Sto.one (AObj.cells cs)) (AObj.cells (List.take ((Int.toNat (↑i : Int) - 0) * 1) cs ++ flat (List.replicate (Int.toNat (IntKind.wrap IntKind.i64 (IntKind.wrap IntKind.i64 ((↑n : Int) + (↑(1 : Nat) : Int)) - (↑i : Int)))) (AVal.int IntKind.i64 (0 : Int))) ++ List.replicate (k * 1) AVal.undef))) 1 (AObj.cells (setRange (List.take ((Int.toNat (↑i : Int) - 0) * 1) cs ++ flat (List.replicate (Int.toNat (IntKind.wrap IntKind.i64 (IntKind.wrap IntKind.i64 ((↑n : Int) + (↑(1 : Nat) : Int)) - (↑i : Int)))) (AVal.int IntKind.i64 (0 : Int))) ++ List.replicate (k * 1) AVal.undef) (0 + Int.toNat (↑i : Int) * 1) (List.take (Min.min 1 (Int.toNat (↑(Int.toNat (↑i : Int) - 0 + Int.toNat (IntKind.wrap IntKind.i64 (IntKind.wrap IntKind.i64 ((↑n : Int) + (↑(1 : Nat) : Int)) - (↑i : Int)))) : Int) - Int.toNat (↑i : Int)) * 1) [AVal.int IntKind.i64 x])))) 1 (AObj.cells (setRange (setRange (List.take ((Int.toNat (↑i : Int) - 0) * 1) cs ++ flat (List.replicate (Int.toNat (IntKind.wrap IntKind.i64 (IntKind.wrap IntKind.i64 ((↑n : Int) + (↑(1 : Nat) : Int)) - (↑i : Int)))) (AVal.int IntKind.i64 (0 : Int))) ++ List.replicate (k * 1) AVal.undef) (0 + Int.toNat (↑i : Int) * 1) (List.take (Min.min 1 (Int.toNat (↑(Int.toNat (↑i : Int) - 0 + Int.toNat (IntKind.wrap IntKind.i64 (IntKind.wrap IntKind.i64 ((↑n : Int) + (↑(1 : Nat) : Int)) - (↑i : Int)))) : Int) - Int.toNat (↑i : Int)) * 1) [AVal.int IntKind.i64 x])) (0 + Int.toNat (IntKind.wrap IntKind.i64 ((↑i : Int) + (↑(1 : Nat) : Int))) * 1) (List.take (Min.min (Int.toNat (↑n : Int) - Int.toNat (↑i : Int)) (Int.toNat (↑(Int.toNat (↑i : Int) - 0 + Int.toNat (IntKind.wrap IntKind.i64 (IntKind.wrap IntKind.i64 ((↑n : Int) + (↑(1 : Nat) : Int)) - (↑i : Int)))) : Int) - Int.toNat (IntKind.wrap IntKind.i64 ((↑i : Int) + (↑(1 : Nat) : Int)))) * 1) (List.take ((Int.toNat (↑n : Int) - Int.toNat (↑i : Int)) * 1) (List.drop (0 + Int.toNat (↑i : Int) * 1) cs)))))))))))))))) (gb (decide ((0 : Int) ≤ (0 : Int) ∧ (0 : Int) ≤ IntKind.wrap IntKind.i64 ((↑n : Int) + (↑(1 : Nat) : Int)) ∧ IntKind.wrap IntKind.i64 ((↑n : Int) + (↑(1 : Nat) : Int)) ≤ (↑c : Int))) (gb (decide ((0 : Int) ≤ IntKind.wrap IntKind.i64 ((↑i : Int) + (↑(1 : Nat) : Int)) ∧ IntKind.wrap IntKind.i64 ((↑i : Int) + (↑(1 : Nat) : Int)) ≤ (↑(Int.toNat (IntKind.wrap IntKind.i64 ((↑n : Int) + (↑(1 : Nat) : Int))) - 0) : Int) ∧ (↑(Int.toNat (IntKind.wrap IntKind.i64 ((↑n : Int) + (↑(1 : Nat) : Int))) - 0) : Int) ≤ (↑(c - 0) : Int))) (gb (decide (0 < 1 ∧ 0 + Int.toNat (IntKind.wrap IntKind.i64 ((↑i : Int) + (↑(1 : Nat) : Int))) * 1 + (Int.toNat (↑(Int.toNat (IntKind.wrap IntKind.i64 ((↑n : Int) + (↑(1 : Nat) : Int))) - 0) : Int) - Int.toNat (IntKind.wrap IntKind.i64 ((↑i : Int) + (↑(1 : Nat) : Int)))) ≤ List.length cs)) (gb (decide ((0 : Int) ≤ IntKind.wrap IntKind.i64 ((↑i : Int) + (↑(1 : Nat) : Int)) ∧ IntKind.wrap IntKind.i64 ((↑i : Int) + (↑(1 : Nat) : Int)) ≤ (↑(Int.toNat (IntKind.wrap IntKind.i64 ((↑n : Int) + (↑(1 : Nat) : Int))) - 0) : Int) ∧ (↑(Int.toNat (IntKind.wrap IntKind.i64 ((↑n : Int) + (↑(1 : Nat) : Int))) - 0) : Int) ≤ (↑(c - 0) : Int))) (gb (decide ((0 : Int) ≤ (↑i : Int) ∧ (↑i : Int) ≤ (↑(Int.toNat (IntKind.wrap IntKind.i64 ((↑n : Int) + (↑(1 : Nat) : Int))) - 0) : Int) ∧ (↑(Int.toNat (IntKind.wrap IntKind.i64 ((↑n : Int) + (↑(1 : Nat) : Int))) - 0) : Int) ≤ (↑(c - 0) : Int))) (gb (decide (decide (decide (0 + Int.toNat (↑i : Int) * 1 + (Int.toNat (↑(Int.toNat (IntKind.wrap IntKind.i64 ((↑n : Int) + (↑(1 : Nat) : Int))) - 0) : Int) - Int.toNat (↑i : Int)) * 1 ≤ List.length cs) = true ∧ 0 + Int.toNat (IntKind.wrap IntKind.i64 ((↑i : Int) + (↑(1 : Nat) : Int))) * 1 + Min.min (Int.toNat (↑(Int.toNat (IntKind.wrap IntKind.i64 ((↑n : Int) + (↑(1 : Nat) : Int))) - 0) : Int) - Int.toNat (↑i : Int)) (Int.toNat (↑(Int.toNat (IntKind.wrap IntKind.i64 ((↑n : Int) + (↑(1 : Nat) : Int))) - 0) : Int) - Int.toNat (IntKind.wrap IntKind.i64 ((↑i : Int) + (↑(1 : Nat) : Int)))) * 1 ≤ List.length cs ∧ (Oid.isOut (Oid.out 0) = true → noLocL (List.take (Min.min (Int.toNat (↑(Int.toNat (IntKind.wrap IntKind.i64 ((↑n : Int) + (↑(1 : Nat) : Int))) - 0) : Int) - Int.toNat (↑i : Int)) (Int.toNat (↑(Int.toNat (IntKind.wrap IntKind.i64 ((↑n : Int) + (↑(1 : Nat) : Int))) - 0) : Int) - Int.toNat (IntKind.wrap IntKind.i64 ((↑i : Int) + (↑(1 : Nat) : Int)))) * Go.TypeInfo.size (Go.Tables.types (Go.Program.toTables Try.prog))[3]) (List.take ((Int.toNat (↑(Int.toNat (IntKind.wrap IntKind.i64 ((↑n : Int) + (↑(1 : Nat) : Int))) - 0) : Int) - Int.toNat (↑i : Int)) * Go.TypeInfo.size (Go.Tables.types (Go.Program.toTables Try.prog))[3]) (List.drop (0 + Int.toNat (↑i : Int) * 1) cs))) = true)) = true ∧ true = true)) (gb (decide ((0 : Int) ≤ (↑i : Int) ∧ (↑i : Int) ≤ (↑(Int.toNat (IntKind.wrap IntKind.i64 ((↑n : Int) + (↑(1 : Nat) : Int))) - 0) : Int) ∧ (↑(Int.toNat (IntKind.wrap IntKind.i64 ((↑n : Int) + (↑(1 : Nat) : Int))) - 0) : Int) ≤ (↑(c - 0) : Int))) (gb (decide (decide (true = true ∧ 0 + Int.toNat (↑i : Int) * 1 + Min.min 1 (Int.toNat (↑(Int.toNat (IntKind.wrap IntKind.i64 ((↑n : Int) + (↑(1 : Nat) : Int))) - 0) : Int) - Int.toNat (↑i : Int)) * 1 ≤ List.length (setRange cs (0 + Int.toNat (IntKind.wrap IntKind.i64 ((↑i : Int) + (↑(1 : Nat) : Int))) * 1) (List.take (Min.min (Int.toNat (↑(Int.toNat (IntKind.wrap IntKind.i64 ((↑n : Int) + (↑(1 : Nat) : Int))) - 0) : Int) - Int.toNat (↑i : Int)) (Int.toNat (↑(Int.toNat (IntKind.wrap IntKind.i64 ((↑n : Int) + (↑(1 : Nat) : Int))) - 0) : Int) - Int.toNat (IntKind.wrap IntKind.i64 ((↑i : Int) + (↑(1 : Nat) : Int)))) * 1) (List.take ((Int.toNat (↑(Int.toNat (IntKind.wrap IntKind.i64 ((↑n : Int) + (↑(1 : Nat) : Int))) - 0) : Int) - Int.toNat (↑i : Int)) * 1) (List.drop (0 + Int.toNat (↑i : Int) * 1) cs)))) ∧ (Oid.isOut (Oid.out 0) = true → noLocL (List.take (Min.min (List.length [AVal.int IntKind.i64 x]) (Int.toNat (↑(Int.toNat (IntKind.wrap IntKind.i64 ((↑n : Int) + (↑(1 : Nat) : Int))) - 0) : Int) - Int.toNat (↑i : Int)) * Go.TypeInfo.size (Go.Tables.types (Go.Program.toTables Try.prog))[3]) (flat [AVal.int IntKind.i64 x])) = true)) = true ∧ true = true)) (Q (AVal.arr (Oid.out 0) 0 (Int.toNat (IntKind.wrap IntKind.i64 ((↑n : Int) + (↑(1 : Nat) : Int))) - 0) (c - 0)) (Sto.set (Sto.set (Sto.one (AObj.cells cs)) 0 (AObj.cells (setRange cs (0 + Int.toNat (IntKind.wrap IntKind.i64 ((↑i : Int) + (↑(1 : Nat) : Int))) * 1) (List.take (Min.min (Int.toNat (↑(Int.toNat (IntKind.wrap IntKind.i64 ((↑n : Int) + (↑(1 : Nat) : Int))) - 0) : Int) - Int.toNat (↑i : Int)) (Int.toNat (↑(Int.toNat (IntKind.wrap IntKind.i64 ((↑n : Int) + (↑(1 : Nat) : Int))) - 0) : Int) - Int.toNat (IntKind.wrap IntKind.i64 ((↑i : Int) + (↑(1 : Nat) : Int)))) * 1) (List.take ((Int.toNat (↑(Int.toNat (IntKind.wrap IntKind.i64 ((↑n : Int) + (↑(1 : Nat) : Int))) - 0) : Int) - Int.toNat (↑i : Int)) * 1) (List.drop (0 + Int.toNat (↑i : Int) * 1) cs)))))) 0 (AObj.cells (setRange (setRange cs (0 + Int.toNat (IntKind.wrap IntKind.i64 ((↑i : Int) + (↑(1 : Nat) : Int))) * 1) (List.take (Min.min (Int.toNat (↑(Int.toNat (IntKind.wrap IntKind.i64 ((↑n : Int) + (↑(1 : Nat) : Int))) - 0) : Int) - Int.toNat (↑i : Int)) (Int.toNat (↑(Int.toNat (IntKind.wrap IntKind.i64 ((↑n : Int) + (↑(1 : Nat) : Int))) - 0) : Int) - Int.toNat (IntKind.wrap IntKind.i64 ((↑i : Int) + (↑(1 : Nat) : Int)))) * 1) (List.take ((Int.toNat (↑(Int.toNat (IntKind.wrap IntKind.i64 ((↑n : Int) + (↑(1 : Nat) : Int))) - 0) : Int) - Int.toNat (↑i : Int)) * 1) (List.drop (0 + Int.toNat (↑i : Int) * 1) cs)))) (0 + Int.toNat (↑i : Int) * 1) (List.take (Min.min 1 (Int.toNat (↑(Int.toNat (IntKind.wrap IntKind.i64 ((↑n : Int) + (↑(1 : Nat) : Int))) - 0) : Int) - Int.toNat (↑i : Int)) * 1) [AVal.int IntKind.i64 x]))))))))))))))))) : ACall Try.prog 31 [.arr (.out 0) 0 n c, .int .i64 (i : Int), .slice [.int .i64 x] 1 .ro] (Sto.one (.cells cs)) Q :=
  ACall.intro hmix Try.func31 (c := code_31_) (by kernel_rfl) cInsI ho (Nat.le_of_ble_eq_true (by kernel_rfl)) (by rw [insI_r]; exact h)
theorem insIH_r (i : Nat) (x : Int) (Q : AVal → Sto → Prop) : vc Try.prog cInsI code_31_ (endK Try.prog Try.f31.results.toList Q) (St.start Try.f31.ntmps [.slice [] 1 .full, .int .i64 (i : Int), .slice [.int .i64 x] 1 .ro] (Sto.empty)) =
  (gb (decide ((0 : Int) ≤ (↑i : Int) ∧ (↑i : Int) ≤ (0 : Int) ∧ (0 : Int) ≤ (0 : Int))) (brV (hold false) true (Q (AVal.slice [] 1 Tag.full) Sto.empty) (brV (hold ((↑i : Int) == (0 : Int))) true (Q (AVal.slice [AVal.int IntKind.i64 x] 1 (Tag.own 0)) (Sto.pushOwn Sto.empty (0 + 1))) False))) := by kernel_rfl
theorem insIH_i (i : Nat) (x : Int) (Q : AVal → Sto → Prop) (ho : OrcOk Try.prog cInsI) (h : gb (decide ((0 : Int) ≤ (↑i : Int) ∧ (↑i : Int) ≤ (0 : Int) ∧ (0 : Int) ≤ (0 : Int))) (brV (hold false) true (Q (AVal.slice [] 1 Tag.full) Sto.empty) (brV (hold ((↑i : Int) == (0 : Int))) true (Q (AVal.slice [AVal.int IntKind.i64 x] 1 (Tag.own 0)) (Sto.pushOwn Sto.empty (0 + 1))) False))) : ACall Try.prog 31 [.slice [] 1 .full, .int .i64 (i : Int), .slice [.int .i64 x] 1 .ro] (Sto.empty) Q :=
  ACall.intro hmix Try.func31 (c := code_31_) (by kernel_rfl) cInsI ho (Nat.le_of_ble_eq_true (by kernel_rfl)) (by rw [insIH_r]; exact h)
theorem cloneIS_r (l : List Int) (Q : AVal → Sto → Prop) : vc Try.prog cCloneIS code_33_ (endK Try.prog Try.f33.results.toList Q) (St.start Try.f33.ntmps [.slice (iv l) 1 .ro] (Sto.empty)) =
  (∀ (b : Bool), (b = true → List.isEmpty (iv l) = true) → (false = true → b = true) → brV (b == true) true (Q (AVal.slice [] 0 Tag.nil) Sto.empty) (gb (decide (decide (true = true ∧ (true = true ∨ 0 < List.length (iv l)) ∧ (0 + List.length (iv l)) * 8 ≤ 140737488355328 ∧ 0 + List.length (iv l) ≤ 9223372036854775807) = true ∧ true = true)) (Q (AVal.slice ([] ++ iv l) 1 (Tag.own 0)) (Sto.pushOwn Sto.empty (0 + List.length (iv l)))))) := by kernel_rfl
theorem cloneIS_i (l : List Int) (Q : AVal → Sto → Prop) (ho : OrcOk Try.prog cCloneIS) (h : ∀ (b : Bool), (b = true → List.isEmpty (iv l) = true) → (false = true → b = true) → brV (b == true) true (Q (AVal.slice [] 0 Tag.nil) Sto.empty) (gb (decide (decide (true = true ∧ (true = true ∨ 0 < List.length (iv l)) ∧ (0 + List.length (iv l)) * 8 ≤ 140737488355328 ∧ 0 + List.length (iv l) ≤ 9223372036854775807) = true ∧ true = true)) (Q (AVal.slice ([] ++ iv l) 1 (Tag.own 0)) (Sto.pushOwn Sto.empty (0 + List.length (iv l)))))) : ACall Try.prog 33 [.slice (iv l) 1 .ro] (Sto.empty) Q :=
  ACall.intro hmix Try.func33 (c := code_33_) (by kernel_rfl) cCloneIS ho (Nat.le_of_ble_eq_true (by kernel_rfl)) (by rw [cloneIS_r]; exact h)
theorem cloneC_r (σ : Sto) (l : List Ck) (Q : AVal → Sto → Prop) : vc Try.prog cCloneC code_34_ (endK Try.prog Try.f34.results.toList Q) (St.start Try.f34.ntmps [.slice (ckv l) 4 .ro] (σ)) =
  (∀ (b : Bool), (b = true → List.isEmpty (ckv l) = true) → (false = true → b = true) → brV (b == true) true (Q (AVal.slice [] 0 Tag.nil) σ) (gb (decide (decide (true = true ∧ (true = true ∨ 0 < List.length (ckv l)) ∧ (0 + List.length (ckv l)) * 48 ≤ 140737488355328 ∧ 0 + List.length (ckv l) ≤ 9223372036854775807) = true ∧ true = true)) (Q (AVal.slice ([] ++ ckv l) 4 (Tag.own (Sto.nown σ))) (Sto.pushOwn σ (0 + List.length (ckv l)))))) := by kernel_rfl
theorem cloneC_i (σ : Sto) (l : List Ck) (Q : AVal → Sto → Prop) (ho : OrcOk Try.prog cCloneC) (h : ∀ (b : Bool), (b = true → List.isEmpty (ckv l) = true) → (false = true → b = true) → brV (b == true) true (Q (AVal.slice [] 0 Tag.nil) σ) (gb (decide (decide (true = true ∧ (true = true ∨ 0 < List.length (ckv l)) ∧ (0 + List.length (ckv l)) * 48 ≤ 140737488355328 ∧ 0 + List.length (ckv l) ≤ 9223372036854775807) = true ∧ true = true)) (Q (AVal.slice ([] ++ ckv l) 4 (Tag.own (Sto.nown σ))) (Sto.pushOwn σ (0 + List.length (ckv l)))))) : ACall Try.prog 34 [.slice (ckv l) 4 .ro] (σ) Q :=
  ACall.intro hmix Try.func34 (c := code_34_) (by kernel_rfl) cCloneC ho (Nat.le_of_ble_eq_true (by kernel_rfl)) (by rw [cloneC_r]; exact h)
theorem ownM_r (σ : Sto) (c : Ck) (Q : AVal → Sto → Prop) : vc Try.prog cOwnM code_28_ (endK Try.prog Try.f28.results.toList Q) (St.start Try.f28.ntmps [ckV c] (σ)) =
  (gb (List.all (iv (Prod.fst (Prod.snd c))) isI64 && hold (decide (List.length (iv (Prod.fst (Prod.snd c))) ≤ 1000000))) (Q (AVal.agg [AVal.int IntKind.i64 (Prod.fst c), AVal.mrow (Sto.nobj σ) (List.length (iv (Prod.fst (Prod.snd c)))), AVal.int IntKind.i64 (Prod.fst (Prod.snd (Prod.snd c))), AVal.bool (Prod.snd (Prod.snd (Prod.snd c)))]) (Sto.pushRow σ (iv (Prod.fst (Prod.snd c))) 1))) := by kernel_rfl
theorem ownM_i (σ : Sto) (c : Ck) (Q : AVal → Sto → Prop) (ho : OrcOk Try.prog cOwnM) (h : gb (List.all (iv (Prod.fst (Prod.snd c))) isI64 && hold (decide (List.length (iv (Prod.fst (Prod.snd c))) ≤ 1000000))) (Q (AVal.agg [AVal.int IntKind.i64 (Prod.fst c), AVal.mrow (Sto.nobj σ) (List.length (iv (Prod.fst (Prod.snd c)))), AVal.int IntKind.i64 (Prod.fst (Prod.snd (Prod.snd c))), AVal.bool (Prod.snd (Prod.snd (Prod.snd c)))]) (Sto.pushRow σ (iv (Prod.fst (Prod.snd c))) 1))) : ACall Try.prog 28 [ckV c] (σ) Q :=
  ACall.intro hmix Try.func28 (c := code_28_) (by kernel_rfl) cOwnM ho (Nat.le_of_ble_eq_true (by kernel_rfl)) (by rw [ownM_r]; exact h)
theorem ownS_r (c : Ck) (Q : AVal → Sto → Prop) : vc Try.prog cOwnS code_28_ (endK Try.prog Try.f28.results.toList Q) (St.start Try.f28.ntmps [ckV c] (Sto.empty)) =
  (gb (List.all (iv (Prod.fst (Prod.snd c))) isI64 && hold (decide (List.length (iv (Prod.fst (Prod.snd c))) ≤ 1000000))) (Q (AVal.agg [AVal.int IntKind.i64 (Prod.fst c), AVal.slice (iv (Prod.fst (Prod.snd c))) 1 Tag.ro, AVal.int IntKind.i64 (Prod.fst (Prod.snd (Prod.snd c))), AVal.bool (Prod.snd (Prod.snd (Prod.snd c)))]) Sto.empty)) := by kernel_rfl
theorem ownS_i (c : Ck) (Q : AVal → Sto → Prop) (ho : OrcOk Try.prog cOwnS) (h : gb (List.all (iv (Prod.fst (Prod.snd c))) isI64 && hold (decide (List.length (iv (Prod.fst (Prod.snd c))) ≤ 1000000))) (Q (AVal.agg [AVal.int IntKind.i64 (Prod.fst c), AVal.slice (iv (Prod.fst (Prod.snd c))) 1 Tag.ro, AVal.int IntKind.i64 (Prod.fst (Prod.snd (Prod.snd c))), AVal.bool (Prod.snd (Prod.snd (Prod.snd c)))]) Sto.empty)) : ACall Try.prog 28 [ckV c] (Sto.empty) Q :=
  ACall.intro hmix Try.func28 (c := code_28_) (by kernel_rfl) cOwnS ho (Nat.le_of_ble_eq_true (by kernel_rfl)) (by rw [ownS_r]; exact h)
theorem apply_r (l ch : List Ck) (Q : AVal → Sto → Prop) : vc Try.prog cApply code_10_ (endK Try.prog Try.f10.results.toList Q) (St.start Try.f10.ntmps [.slice (ckv l) 4 .ro, .slice (ckv ch) 4 .ro] (Sto.empty)) =
  (gb (List.all (ckv l) ckIs && lenM (List.length (ckv l))) (gb (decide (decide (true = true ∧ some (List.length (ckv (List.map ckOf (ckv l)))) = some (List.length (ckv (List.map ckOf (ckv l)))) ∧ (List.length (ckv (List.map ckOf (ckv l))) + List.length (ckv ch)) * 48 ≤ 140737488355328 ∧ List.length (ckv (List.map ckOf (ckv l))) + List.length (ckv ch) ≤ 9223372036854775807) = true ∧ true = true)) (loopV (fun s => St.norm [(8, 4), (16, 1004)] [5, 16, 17, 18] [12] s) (vc Try.prog cApply code_10_1_1_0_1_0_0) (blockK 0 (thenK (fun s => cutV (vc Try.prog cApply code_10_1_1_1 (endK Try.prog (Array.toList (Go.Func.results Try.f10)) Q)) (St.norm [(8, 4), (16, 1004)] [5] [12] s)) (endK Try.prog (Array.toList (Go.Func.results Try.f10)) Q))) (St.mk 52 [(5, AVal.map (Oid.loc 12)), (16, AVal.slice (ckv (List.map ckOf (ckv l)) ++ ckv ch) 4 Tag.ro), (17, AVal.int IntKind.i64 (↑(List.length (ckv (List.map ckOf (ckv l)) ++ ckv ch)) : Int)), (18, AVal.int IntKind.i64 (0 : Int))] [] [(12, AObj.map [])] (Sto.setOwn (Sto.pushOwn Sto.empty (List.length (ckv (List.map ckOf (ckv l))))) 0 (List.length (ckv (List.map ckOf (ckv l))) + List.length (ckv ch))))))) := by kernel_rfl
theorem apply_i (l ch : List Ck) (Q : AVal → Sto → Prop) (ho : OrcOk Try.prog cApply) (h : gb (List.all (ckv l) ckIs && lenM (List.length (ckv l))) (gb (decide (decide (true = true ∧ some (List.length (ckv (List.map ckOf (ckv l)))) = some (List.length (ckv (List.map ckOf (ckv l)))) ∧ (List.length (ckv (List.map ckOf (ckv l))) + List.length (ckv ch)) * 48 ≤ 140737488355328 ∧ List.length (ckv (List.map ckOf (ckv l))) + List.length (ckv ch) ≤ 9223372036854775807) = true ∧ true = true)) (loopV (fun s => St.norm [(8, 4), (16, 1004)] [5, 16, 17, 18] [12] s) (vc Try.prog cApply code_10_1_1_0_1_0_0) (blockK 0 (thenK (fun s => cutV (vc Try.prog cApply code_10_1_1_1 (endK Try.prog (Array.toList (Go.Func.results Try.f10)) Q)) (St.norm [(8, 4), (16, 1004)] [5] [12] s)) (endK Try.prog (Array.toList (Go.Func.results Try.f10)) Q))) (St.mk 52 [(5, AVal.map (Oid.loc 12)), (16, AVal.slice (ckv (List.map ckOf (ckv l)) ++ ckv ch) 4 Tag.ro), (17, AVal.int IntKind.i64 (↑(List.length (ckv (List.map ckOf (ckv l)) ++ ckv ch)) : Int)), (18, AVal.int IntKind.i64 (0 : Int))] [] [(12, AObj.map [])] (Sto.setOwn (Sto.pushOwn Sto.empty (List.length (ckv (List.map ckOf (ckv l))))) 0 (List.length (ckv (List.map ckOf (ckv l))) + List.length (ckv ch))))))) : ACall Try.prog 10 [.slice (ckv l) 4 .ro, .slice (ckv ch) 4 .ro] (Sto.empty) Q :=
  ACall.intro hmix Try.func10 (c := code_10_) (by kernel_rfl) cApply ho (Nat.le_of_ble_eq_true (by kernel_rfl)) (by rw [apply_r]; exact h)
noncomputable def applyL_S (a : List Ck) (m : List (Int × Ck)) (n i : Nat) (σ : Sto) : St := St.mk 52 [(5, .map (.loc 12)), (16, .slice (ckv a) 4 .ro), (17, .int .i64 (n : Int)), (18, .int .i64 (i : Int))] [] [(12, .map (mi ckV m))] (σ)
noncomputable abbrev applyL_C : Code := code_10_1_1_0_1_0_0
theorem applyL_r (a : List Ck) (m : List (Int × Ck)) (n i : Nat) (σ : Sto) (L : St → Prop) (K : Exit → St → Prop) : vc Try.prog cApply code_10_1_1_0_1_0_0 (thenK (fun s => L (St.norm [(8, 4), (16, 1004)] [5, 16, 17, 18] [12] s)) K) (St.mk 52 [(5, .map (.loc 12)), (16, .slice (ckv a) 4 .ro), (17, .int .i64 (n : Int)), (18, .int .i64 (i : Int))] [] [(12, .map (mi ckV m))] (σ)) =
  (brV (hold (decide ((↑i : Int) < (↑n : Int)))) true (gb (decide ((0 : Int) ≤ (↑i : Int) ∧ (↑i : Int) < (↑(List.length (ckv a)) : Int))) (gb (decide (4 ≤ List.length (elemAt (ckv a) (↑i : Int)) ∧ 0 < 4) && (etaOk (Sh.int IntKind.i64) (List.getD (elemAt (ckv a) (↑i : Int)) 0 AVal.undef) && (sliceOk 1 (List.getD (elemAt (ckv a) (↑i : Int)) 1 AVal.undef) && (etaOk (Sh.int IntKind.i64) (List.getD (elemAt (ckv a) (↑i : Int)) 2 AVal.undef) && (etaOk Sh.bool (List.getD (elemAt (ckv a) (↑i : Int)) 3 AVal.undef) && true))))) (gb (decide (((12 == 7 || AObj.noRef 7 (AObj.map (mi ckV m))) && true) = true ∧ true = true ∧ 7 < 52)) (gb (keysOk Try.prog 3 (mi ckV m) && true) (L (St.mk 52 [(5, AVal.map (Oid.loc 12)), (16, AVal.slice (ckv a) 4 Tag.ro), (17, AVal.int IntKind.i64 (↑n : Int)), (18, AVal.int IntKind.i64 (IntKind.wrap IntKind.i64 ((↑i : Int) + (1 : Int))))] [] [(12, AObj.map (mapPut (AVal.int IntKind.i64 (AVal.intOf (List.getD (elemAt (ckv a) (↑i : Int)) 0 AVal.undef))) (AVal.agg [AVal.int IntKind.i64 (AVal.intOf (List.getD (elemAt (ckv a) (↑i : Int)) 0 AVal.undef)), AVal.slice (AVal.elems (List.getD (elemAt (ckv a) (↑i : Int)) 1 AVal.undef)) 1 Tag.ro, AVal.int IntKind.i64 (AVal.intOf (List.getD (elemAt (ckv a) (↑i : Int)) 2 AVal.undef)), AVal.bool (AVal.boolOf (List.getD (elemAt (ckv a) (↑i : Int)) 3 AVal.undef))]) (mi ckV m)))] σ)))))) (K (Exit.exit 0) (St.mk 52 [(5, AVal.map (Oid.loc 12)), (16, AVal.slice (ckv a) 4 Tag.ro), (17, AVal.int IntKind.i64 (↑n : Int)), (18, AVal.int IntKind.i64 (↑i : Int)), (19, AVal.bool (hold (decide ((↑i : Int) < (↑n : Int)))))] [] [(12, AObj.map (mi ckV m))] σ))) := by kernel_rfl
noncomputable def applyA_S (m : List (Int × Ck)) (σ : Sto) : St := St.mk 52 [(5, .map (.loc 12))] [] [(12, .map (mi ckV m))] (σ)
noncomputable abbrev applyA_C : Code := code_10_1_1_1
theorem applyA_r (m : List (Int × Ck)) (σ : Sto) (Q : AVal → Sto → Prop) : vc Try.prog cApply code_10_1_1_1 (endK Try.prog Try.f10.results.toList Q) (St.mk 52 [(5, .map (.loc 12))] [] [(12, .map (mi ckV m))] (σ)) =
  (cutV (vc Try.prog cApply code_10_1_1_1_1_1 (endK Try.prog (Array.toList (Go.Func.results Try.f10)) Q)) (St.mk 52 [(5, AVal.map (Oid.loc 12)), (8, AVal.slice [] 4 (Tag.own (Sto.nown σ))), (9, AVal.int IntKind.i64 (0 : Int))] [] [(12, AObj.map (mi ckV m))] (Sto.pushOwn σ 0))) := by kernel_rfl
noncomputable def applyM_S (m : List (Int × Ck)) (o : List Ck) (no : Int) (p : Nat) (σ : Sto) : St := St.mk 52 [(5, .map (.loc 12)), (8, .slice (ckv o) 4 (.own p)), (9, .int .i64 no)] [] [(12, .map (mi ckV m))] (σ)
noncomputable abbrev applyM_C : Code := code_10_1_1_1_1_1_0_0
theorem applyM_r (m : List (Int × Ck)) (o : List Ck) (no : Int) (p : Nat) (σ : Sto) (L : St → Prop) (K : Exit → St → Prop) : vc Try.prog cApply code_10_1_1_1_1_1_0_0 (thenK (fun s => L (St.norm [(8, 4), (16, 1004)] [5, 8, 9] [12] s)) K) (St.mk 52 [(5, .map (.loc 12)), (8, .slice (ckv o) 4 (.own p)), (9, .int .i64 no)] [] [(12, .map (mi ckV m))] (σ)) =
  (gb (keysOk Try.prog 3 (mi ckV m) && (isAggN 4 (mapVal (AVal.int IntKind.i64 no) (AVal.agg [AVal.int IntKind.i64 (0 : Int), AVal.slice [] 0 Tag.nil, AVal.int IntKind.i64 (0 : Int), AVal.bool false]) (mi ckV m)) && (etaOk (Sh.int IntKind.i64) (List.getD (AVal.cells (mapVal (AVal.int IntKind.i64 no) (AVal.agg [AVal.int IntKind.i64 (0 : Int), AVal.slice [] 0 Tag.nil, AVal.int IntKind.i64 (0 : Int), AVal.bool false]) (mi ckV m))) 0 AVal.undef) && (sliceOk 1 (List.getD (AVal.cells (mapVal (AVal.int IntKind.i64 no) (AVal.agg [AVal.int IntKind.i64 (0 : Int), AVal.slice [] 0 Tag.nil, AVal.int IntKind.i64 (0 : Int), AVal.bool false]) (mi ckV m))) 1 AVal.undef) && (etaOk (Sh.int IntKind.i64) (List.getD (AVal.cells (mapVal (AVal.int IntKind.i64 no) (AVal.agg [AVal.int IntKind.i64 (0 : Int), AVal.slice [] 0 Tag.nil, AVal.int IntKind.i64 (0 : Int), AVal.bool false]) (mi ckV m))) 2 AVal.undef) && (etaOk Sh.bool (List.getD (AVal.cells (mapVal (AVal.int IntKind.i64 no) (AVal.agg [AVal.int IntKind.i64 (0 : Int), AVal.slice [] 0 Tag.nil, AVal.int IntKind.i64 (0 : Int), AVal.bool false]) (mi ckV m))) 3 AVal.undef) && true)))))) (gb (decide (((12 == 10 || AObj.noRef 10 (AObj.map (mi ckV m))) && true) = true ∧ true = true ∧ 10 < 52)) (brV (!hold (Option.isSome (mapFind (AVal.int IntKind.i64 no) (mi ckV m) 0))) false (brV (AVal.boolOf (List.getD (AVal.cells (mapVal (AVal.int IntKind.i64 no) (AVal.agg [AVal.int IntKind.i64 (0 : Int), AVal.slice [] 0 Tag.nil, AVal.int IntKind.i64 (0 : Int), AVal.bool false]) (mi ckV m))) 3 AVal.undef)) true (K Exit.ret (St.mk 52 [(5, AVal.map (Oid.loc 12)), (8, AVal.slice (ckv o) 4 (Tag.own p)), (9, AVal.int IntKind.i64 no), (10, AVal.ptr (Oid.loc 10) 0), (11, AVal.bool (hold (Option.isSome (mapFind (AVal.int IntKind.i64 no) (mi ckV m) 0)))), (38, AVal.bool (AVal.boolOf (List.getD (AVal.cells (mapVal (AVal.int IntKind.i64 no) (AVal.agg [AVal.int IntKind.i64 (0 : Int), AVal.slice [] 0 Tag.nil, AVal.int IntKind.i64 (0 : Int), AVal.bool false]) (mi ckV m))) 3 AVal.undef))), (4, AVal.slice (ckv o) 4 (Tag.own p))] [] [(12, AObj.map (mi ckV m)), (10, AObj.cells [AVal.int IntKind.i64 (AVal.intOf (List.getD (AVal.cells (mapVal (AVal.int IntKind.i64 no) (AVal.agg [AVal.int IntKind.i64 (0 : Int), AVal.slice [] 0 Tag.nil, AVal.int IntKind.i64 (0 : Int), AVal.bool false]) (mi ckV m))) 0 AVal.undef)), AVal.slice (AVal.elems (List.getD (AVal.cells (mapVal (AVal.int IntKind.i64 no) (AVal.agg [AVal.int IntKind.i64 (0 : Int), AVal.slice [] 0 Tag.nil, AVal.int IntKind.i64 (0 : Int), AVal.bool false]) (mi ckV m))) 1 AVal.undef)) 1 Tag.ro, AVal.int IntKind.i64 (AVal.intOf (List.getD (AVal.cells (mapVal (AVal.int IntKind.i64 no) (AVal.agg [AVal.int IntKind.i64 (0 : Int), AVal.slice [] 0 Tag.nil, AVal.int IntKind.i64 (0 : Int), AVal.bool false]) (mi ckV m))) 2 AVal.undef)), AVal.bool (AVal.boolOf (List.getD (AVal.cells (mapVal (AVal.int IntKind.i64 no) (AVal.agg [AVal.int IntKind.i64 (0 : Int), AVal.slice [] 0 Tag.nil, AVal.int IntKind.i64 (0 : Int), AVal.bool false]) (mi ckV m))) 3 AVal.undef))])] σ)) (gb (ckM (AVal.agg [AVal.int IntKind.i64 (AVal.intOf (List.getD (AVal.cells (mapVal (AVal.int IntKind.i64 no) (AVal.agg [AVal.int IntKind.i64 (0 : Int), AVal.slice [] 0 Tag.nil, AVal.int IntKind.i64 (0 : Int), AVal.bool false]) (mi ckV m))) 0 AVal.undef)), AVal.slice (AVal.elems (List.getD (AVal.cells (mapVal (AVal.int IntKind.i64 no) (AVal.agg [AVal.int IntKind.i64 (0 : Int), AVal.slice [] 0 Tag.nil, AVal.int IntKind.i64 (0 : Int), AVal.bool false]) (mi ckV m))) 1 AVal.undef)) 1 Tag.ro, AVal.int IntKind.i64 (AVal.intOf (List.getD (AVal.cells (mapVal (AVal.int IntKind.i64 no) (AVal.agg [AVal.int IntKind.i64 (0 : Int), AVal.slice [] 0 Tag.nil, AVal.int IntKind.i64 (0 : Int), AVal.bool false]) (mi ckV m))) 2 AVal.undef)), AVal.bool (AVal.boolOf (List.getD (AVal.cells (mapVal (AVal.int IntKind.i64 no) (AVal.agg [AVal.int IntKind.i64 (0 : Int), AVal.slice [] 0 Tag.nil, AVal.int IntKind.i64 (0 : Int), AVal.bool false]) (mi ckV m))) 3 AVal.undef))])) (gb (decide (decide (true = true ∧ Sto.own σ p = some (List.length (ckv o)) ∧ (List.length (ckv o) + 1) * 48 ≤ 140737488355328 ∧ List.length (ckv o) + 1 ≤ 9223372036854775807) = true ∧ true = true)) (gb (decide (keysOk Try.prog 3 (mi ckV m) = true ∧ true = true)) (brV (hold (AVal.intOf (List.getD (AVal.cells (mapVal (AVal.int IntKind.i64 no) (AVal.agg [AVal.int IntKind.i64 (0 : Int), AVal.slice [] 0 Tag.nil, AVal.int IntKind.i64 (0 : Int), AVal.bool false]) (mi ckV m))) 2 AVal.undef) == (0 : Int))) true (K Exit.ret (St.mk 52 [(5, AVal.map (Oid.loc 12)), (8, AVal.slice (ckv o ++ [AVal.agg [AVal.int IntKind.i64 (AVal.intOf (List.getD (AVal.cells (mapVal (AVal.int IntKind.i64 no) (AVal.agg [AVal.int IntKind.i64 (0 : Int), AVal.slice [] 0 Tag.nil, AVal.int IntKind.i64 (0 : Int), AVal.bool false]) (mi ckV m))) 0 AVal.undef)), AVal.slice (iv (List.map AVal.intOf (AVal.elems (List.getD (AVal.cells (mapVal (AVal.int IntKind.i64 no) (AVal.agg [AVal.int IntKind.i64 (0 : Int), AVal.slice [] 0 Tag.nil, AVal.int IntKind.i64 (0 : Int), AVal.bool false]) (mi ckV m))) 1 AVal.undef)))) 1 Tag.ro, AVal.int IntKind.i64 (AVal.intOf (List.getD (AVal.cells (mapVal (AVal.int IntKind.i64 no) (AVal.agg [AVal.int IntKind.i64 (0 : Int), AVal.slice [] 0 Tag.nil, AVal.int IntKind.i64 (0 : Int), AVal.bool false]) (mi ckV m))) 2 AVal.undef)), AVal.bool (AVal.boolOf (List.getD (AVal.cells (mapVal (AVal.int IntKind.i64 no) (AVal.agg [AVal.int IntKind.i64 (0 : Int), AVal.slice [] 0 Tag.nil, AVal.int IntKind.i64 (0 : Int), AVal.bool false]) (mi ckV m))) 3 AVal.undef))]]) 4 (Tag.own p)), (9, AVal.int IntKind.i64 (AVal.intOf (List.getD (AVal.cells (mapVal (AVal.int IntKind.i64 no) (AVal.agg [AVal.int IntKind.i64 (0 : Int), AVal.slice [] 0 Tag.nil, AVal.int IntKind.i64 (0 : Int), AVal.bool false]) (mi ckV m))) 2 AVal.undef))), (10, AVal.ptr (Oid.loc 10) 0), (11, AVal.bool (hold (Option.isSome (mapFind (AVal.int IntKind.i64 no) (mi ckV m) 0)))), (38, AVal.bool (AVal.boolOf (List.getD (AVal.cells (mapVal (AVal.int IntKind.i64 no) (AVal.agg [AVal.int IntKind.i64 (0 : Int), AVal.slice [] 0 Tag.nil, AVal.int IntKind.i64 (0 : Int), AVal.bool false]) (mi ckV m))) 3 AVal.undef))), (50, AVal.bool (hold (AVal.intOf (List.getD (AVal.cells (mapVal (AVal.int IntKind.i64 no) (AVal.agg [AVal.int IntKind.i64 (0 : Int), AVal.slice [] 0 Tag.nil, AVal.int IntKind.i64 (0 : Int), AVal.bool false]) (mi ckV m))) 2 AVal.undef) == (0 : Int)))), (4, AVal.slice (ckv o ++ [AVal.agg [AVal.int IntKind.i64 (AVal.intOf (List.getD (AVal.cells (mapVal (AVal.int IntKind.i64 no) (AVal.agg [AVal.int IntKind.i64 (0 : Int), AVal.slice [] 0 Tag.nil, AVal.int IntKind.i64 (0 : Int), AVal.bool false]) (mi ckV m))) 0 AVal.undef)), AVal.slice (iv (List.map AVal.intOf (AVal.elems (List.getD (AVal.cells (mapVal (AVal.int IntKind.i64 no) (AVal.agg [AVal.int IntKind.i64 (0 : Int), AVal.slice [] 0 Tag.nil, AVal.int IntKind.i64 (0 : Int), AVal.bool false]) (mi ckV m))) 1 AVal.undef)))) 1 Tag.ro, AVal.int IntKind.i64 (AVal.intOf (List.getD (AVal.cells (mapVal (AVal.int IntKind.i64 no) (AVal.agg [AVal.int IntKind.i64 (0 : Int), AVal.slice [] 0 Tag.nil, AVal.int IntKind.i64 (0 : Int), AVal.bool false]) (mi ckV m))) 2 AVal.undef)), AVal.bool (AVal.boolOf (List.getD (AVal.cells (mapVal (AVal.int IntKind.i64 no) (AVal.agg [AVal.int IntKind.i64 (0 : Int), AVal.slice [] 0 Tag.nil, AVal.int IntKind.i64 (0 : Int), AVal.bool false]) (mi ckV m))) 3 AVal.undef))]]) 4 (Tag.own p))] [] [(12, AObj.map (mapDel (AVal.int IntKind.i64 no) (mi ckV m))), (10, AObj.cells [AVal.int IntKind.i64 (AVal.intOf (List.getD (AVal.cells (mapVal (AVal.int IntKind.i64 no) (AVal.agg [AVal.int IntKind.i64 (0 : Int), AVal.slice [] 0 Tag.nil, AVal.int IntKind.i64 (0 : Int), AVal.bool false]) (mi ckV m))) 0 AVal.undef)), AVal.slice (AVal.elems (List.getD (AVal.cells (mapVal (AVal.int IntKind.i64 no) (AVal.agg [AVal.int IntKind.i64 (0 : Int), AVal.slice [] 0 Tag.nil, AVal.int IntKind.i64 (0 : Int), AVal.bool false]) (mi ckV m))) 1 AVal.undef)) 1 Tag.ro, AVal.int IntKind.i64 (AVal.intOf (List.getD (AVal.cells (mapVal (AVal.int IntKind.i64 no) (AVal.agg [AVal.int IntKind.i64 (0 : Int), AVal.slice [] 0 Tag.nil, AVal.int IntKind.i64 (0 : Int), AVal.bool false]) (mi ckV m))) 2 AVal.undef)), AVal.bool (AVal.boolOf (List.getD (AVal.cells (mapVal (AVal.int IntKind.i64 no) (AVal.agg [AVal.int IntKind.i64 (0 : Int), AVal.slice [] 0 Tag.nil, AVal.int IntKind.i64 (0 : Int), AVal.bool false]) (mi ckV m))) 3 AVal.undef))])] (Sto.setOwn σ p (List.length (ckv o) + 1)))) (L (St.mk 52 [(5, AVal.map (Oid.loc 12)), (8, AVal.slice (ckv o ++ [AVal.agg [AVal.int IntKind.i64 (AVal.intOf (List.getD (AVal.cells (mapVal (AVal.int IntKind.i64 no) (AVal.agg [AVal.int IntKind.i64 (0 : Int), AVal.slice [] 0 Tag.nil, AVal.int IntKind.i64 (0 : Int), AVal.bool false]) (mi ckV m))) 0 AVal.undef)), AVal.slice (iv (List.map AVal.intOf (AVal.elems (List.getD (AVal.cells (mapVal (AVal.int IntKind.i64 no) (AVal.agg [AVal.int IntKind.i64 (0 : Int), AVal.slice [] 0 Tag.nil, AVal.int IntKind.i64 (0 : Int), AVal.bool false]) (mi ckV m))) 1 AVal.undef)))) 1 Tag.ro, AVal.int IntKind.i64 (AVal.intOf (List.getD (AVal.cells (mapVal (AVal.int IntKind.i64 no) (AVal.agg [AVal.int IntKind.i64 (0 : Int), AVal.slice [] 0 Tag.nil, AVal.int IntKind.i64 (0 : Int), AVal.bool false]) (mi ckV m))) 2 AVal.undef)), AVal.bool (AVal.boolOf (List.getD (AVal.cells (mapVal (AVal.int IntKind.i64 no) (AVal.agg [AVal.int IntKind.i64 (0 : Int), AVal.slice [] 0 Tag.nil, AVal.int IntKind.i64 (0 : Int), AVal.bool false]) (mi ckV m))) 3 AVal.undef))]]) 4 (Tag.own p)), (9, AVal.int IntKind.i64 (AVal.intOf (List.getD (AVal.cells (mapVal (AVal.int IntKind.i64 no) (AVal.agg [AVal.int IntKind.i64 (0 : Int), AVal.slice [] 0 Tag.nil, AVal.int IntKind.i64 (0 : Int), AVal.bool false]) (mi ckV m))) 2 AVal.undef)))] [] [(12, AObj.map (mapDel (AVal.int IntKind.i64 no) (mi ckV m)))] (Sto.setOwn σ p (List.length (ckv o) + 1))))))))) (K Exit.ret (St.mk 52 [(5, AVal.map (Oid.loc 12)), (8, AVal.slice (ckv o) 4 (Tag.own p)), (9, AVal.int IntKind.i64 no), (10, AVal.ptr (Oid.loc 10) 0), (11, AVal.bool (hold (Option.isSome (mapFind (AVal.int IntKind.i64 no) (mi ckV m) 0)))), (38, AVal.bool true), (4, AVal.slice (ckv o) 4 (Tag.own p))] [] [(12, AObj.map (mi ckV m)), (10, AObj.cells [AVal.int IntKind.i64 (AVal.intOf (List.getD (AVal.cells (mapVal (AVal.int IntKind.i64 no) (AVal.agg [AVal.int IntKind.i64 (0 : Int), AVal.slice [] 0 Tag.nil, AVal.int IntKind.i64 (0 : Int), AVal.bool false]) (mi ckV m))) 0 AVal.undef)), AVal.slice (AVal.elems (List.getD (AVal.cells (mapVal (AVal.int IntKind.i64 no) (AVal.agg [AVal.int IntKind.i64 (0 : Int), AVal.slice [] 0 Tag.nil, AVal.int IntKind.i64 (0 : Int), AVal.bool false]) (mi ckV m))) 1 AVal.undef)) 1 Tag.ro, AVal.int IntKind.i64 (AVal.intOf (List.getD (AVal.cells (mapVal (AVal.int IntKind.i64 no) (AVal.agg [AVal.int IntKind.i64 (0 : Int), AVal.slice [] 0 Tag.nil, AVal.int IntKind.i64 (0 : Int), AVal.bool false]) (mi ckV m))) 2 AVal.undef)), AVal.bool (AVal.boolOf (List.getD (AVal.cells (mapVal (AVal.int IntKind.i64 no) (AVal.agg [AVal.int IntKind.i64 (0 : Int), AVal.slice [] 0 Tag.nil, AVal.int IntKind.i64 (0 : Int), AVal.bool false]) (mi ckV m))) 3 AVal.undef))])] σ))))) := by kernel_rfl
end Go.Proofs.Ytjdjecaclbdhhaa
end

section
namespace Go.Proofs.Ytjdjecaclbdhhaa
open Go.AL
set_option linter.unusedSimpArgs false
set_option linter.unusedVariables false
set_option maxHeartbeats 4000000
set_option maxRecDepth 20000

theorem dtt {b : Bool} (h : b = true) : decide (b = true ∧ True) = true := by subst h; rfl
theorem ovOk_of {g : FuncId} {fn : Func} {T e : TypeId} (h1 : Try.prog.funcs[g]? = some fn) (h2 : (fn.name == "runtime.NumGoroutine") = false) (h3 : fn.body.isNone = true) (h4 : Extern.findNext fn = none)
    (h5 : Extern.find fn = some (Extern.SlicesOverlaps.overlaps fn.params fn.resultTypes)) (h6 : fn.params[0]? = some T) (h7 : Try.prog.underlying T = some (.slice e)) (h8 : (Try.prog.info? e).isSome = true) : OvOk Try.prog g := by
  obtain ⟨inf, hi⟩ := Option.isSome_iff_exists.1 h8
  exact ⟨fn, T, e, inf, h1, h2, h3, h4, h5, h6, h7, hi⟩
theorem ovOkI (g : FuncId) (h : isOvI g = true) : OvOk Try.prog g := by
  have e := Nat.eq_of_beq_eq_true h
  subst e
  exact ovOk_of (fn := Try.f47) (T := 22) (e := 3) (by kernel_rfl) (by kernel_rfl) (by kernel_rfl) (by kernel_rfl) (by kernel_rfl) (by kernel_rfl) (by kernel_rfl) (by kernel_rfl)

theorem cloneI_c (σ : Sto) (l : List Int) (hl : l.length ≤ 1000000) : ACall Try.prog 33 [.slice (iv l) 1 .ro] σ fun r τ => r = .mrow σ.nobj (iv l).length ∧ τ = σ.pushRow (iv l) 1 := by
  have hn : (iv l).length = l.length := iv_length l
  refine ACall.closeRow (by omega) (fun e he => by obtain ⟨x, _, rfl⟩ := List.mem_map.1 he; rfl) ?_
  refine cloneI_i σ l _ (.of_none rfl) ?_
  simp only [hold_eq, true_and]
  intro b hb _
  refine brV_by (fun h => ?_) (fun h => ?_)
  · have hb1 : b = true := by simpa using h
    have : iv l = [] := List.isEmpty_iff.1 (hb hb1)
    exact .inl ⟨this, 0, .inl rfl⟩
  · refine brV_by (fun h => ?_) (fun h => ?_)
    · have : iv l = [] := List.eq_nil_of_length_eq_zero (by simpa using h)
      exact .inl ⟨this, 1, .inr rfl⟩
    · refine gb_by (dt (by omega)) fun k hk => gb_by (dt ⟨?_, by omega⟩) (.inr ⟨k, List.replicate (k * 1) .undef, ?_, rfl, by simp, by omega⟩)
      · simp only [AObj.noLoc]
        exact noLocL_append (by rw [flat_iv]; exact iv_noLoc l) (noLocL_undefs _)
      · simp only [Nat.zero_add]

theorem cloneI_ok : EntOk Try.prog cloneIE := by
  intro xs σ; simp only [cloneIE]; split
  · rename_i es s t
    intro hc
    simp only [Bool.and_eq_true, hold_eq, decide_eq_true_eq] at hc
    obtain ⟨h1, h2, h3⟩ := hc
    have e := iv_of h2
    have := cloneI_c σ (es.map AVal.intOf) (by simpa using h3)
    rw [← e] at this
    exact ACall.args this (.cons (by have := wk_iv t h1 h2; rwa [← e] at this) (.refl _))
  · trivial

theorem insI_c (l : List Int) (i : Nat) (x : Int) (hi : i ≤ l.length) (hl : l.length ≤ 1000000) (j c : Nat) (hc : (iv l).length ≤ c) (hj : (iv l).length * 1 + j = c * 1) (hcm : c ≤ 9223372036854775807) :
    ACall Try.prog 31 [.arr (.out 0) 0 (iv l).length c, .int .i64 (i : Int), .slice [(AVal.int .i64) x] 1 .ro] (Sto.one (.cells (flat (iv l) ++ List.replicate j .undef))) fun r τ =>
      Wk r (.slice (insC (iv l) i ((AVal.int .i64) x)) 1 .ro) ∨ ∃ o cap tl, r = .arr (.out o) 0 (insC (iv l) i ((AVal.int .i64) x)).length cap ∧ τ.obj o = some (.cells (flat (insC (iv l) i ((AVal.int .i64) x)) ++ tl)) ∧ cap ≤ 9223372036854775807 := by
  have hn : (iv l).length = l.length := iv_length l
  have hfl : flat (insC (iv l) i ((AVal.int .i64) x)) = insC (iv l) i ((AVal.int .i64) x) := by
    have : insC (iv l) i ((AVal.int .i64) x) = iv (insL l i x) := insC_map (AVal.int .i64) l i x
    rw [this, flat_iv]
  have hil := insC_length ((AVal.int .i64) x) (show i ≤ (iv l).length by omega)
  rw [hfl, hil, flat_iv]
  have hE : noLocL (iv l) = true := iv_noLoc l
  generalize hEE : iv l = E at *
  have hlc : (E ++ List.replicate j AVal.undef).length = E.length + j := by simp
  refine insI_i _ E.length c i x _ (.ofX [] rfl trivial ovOkI) ?_
  have w1 : IntKind.i64.wrap ((E.length : Int) + ((1 : Nat) : Int)) = ((E.length + 1 : Nat) : Int) := by rw [wrap_i64 (by omega) (by omega)]; rfl
  have w2 : IntKind.i64.wrap (((E.length + 1 : Nat) : Int) - (i : Int)) = ((E.length + 1 - i : Nat) : Int) := by rw [wrap_i64 (by omega) (by omega)]; omega
  have w3 : IntKind.i64.wrap ((i : Int) + ((1 : Nat) : Int)) = ((i + 1 : Nat) : Int) := by rw [wrap_i64 (by omega) (by omega)]; rfl
  have m1 : min 1 (i + (E.length + 1 - i) - i) = 1 := by omega
  have m2 : min (E.length - i) (i + (E.length + 1 - i) - (i + 1)) = E.length - i := by omega
  have m3 : min (E.length - i) (E.length + 1 - (i + 1)) = E.length - i := by omega
  have m4 : min 1 (E.length + 1 - i) = 1 := by omega
  have m5 : min (E.length + 1 - i) (E.length + 1 - (i + 1)) = E.length - i := by omega
  have m6 : min (E.length - i) (E.length + 1 - i) = E.length - i := by omega
  simp only [hold_eq, w1, w2, w3, Int.toNat_natCast, Nat.sub_zero, Nat.mul_one, Nat.zero_add, m1, m2, m3, m4, m5, m6, List.take_take, one_set, flat_rep (show ((AVal.int .i64 0) : AVal).cells = [(AVal.int .i64 0)] from rfl)]
  refine gb_by (dt (by omega)) ?_
  refine brV_by (fun h => by cases h) fun _ => ?_
  refine brV_by (fun h => ?_) (fun h => ?_)
  · have he : i = E.length := by simp at h; omega
    subst he
    refine gb_by (dt (by omega)) (brV_by (fun h => ?_) (fun h => ?_))
    · have hroom : E.length + 1 ≤ c := by simpa using h
      refine gb_by (dtt (dt ⟨trivial, hroom, by omega, fun _ => rfl⟩)) ?_
      obtain ⟨tl, htl⟩ := ins_end (E := E) (J := List.replicate j AVal.undef) ((AVal.int .i64) x) (by simp; omega)
      exact .inr ⟨0, c, tl, rfl, by rw [htl]; rfl, hcm⟩
    · refine gb_by (dt (by omega)) fun k hk => gb_by (dt ⟨?_, by omega⟩) ?_
      · exact noLocL_append (noLocL_append (noLocL_take _ (noLocL_append hE (noLocL_undefs _))) rfl) (noLocL_undefs _)
      · obtain ⟨tl, htl⟩ := ins_endG (E := E) (J := List.replicate j AVal.undef) (U := List.replicate k AVal.undef) ((AVal.int .i64) x)
        exact .inr ⟨1, E.length + 1 + k, tl, rfl, by rw [htl]; rfl, by omega⟩
  · have hne : i < E.length := by simp at h; omega
    have hNL : noLocL (E ++ List.replicate j AVal.undef) = true := noLocL_append hE (noLocL_undefs _)
    refine brV_by (fun h => ?_) (fun h => ?_)
    · have hroom : c < E.length + 1 := by simp at h; omega
      refine gb_by (dt (by omega)) (gb_by (by simp; omega) (gb_by (dt (by omega)) fun k hk => ?_))
      have hU : noLocL (List.take i (E ++ List.replicate j AVal.undef) ++ List.replicate (E.length + 1 - i) (AVal.int .i64 0) ++ List.replicate k AVal.undef) = true :=
        noLocL_append (noLocL_append (noLocL_take _ hNL) (noLocL_rep rfl _)) (noLocL_undefs _)
      have hl0 : (List.take i (E ++ List.replicate j AVal.undef) ++ List.replicate (E.length + 1 - i) (AVal.int .i64 0) ++ List.replicate k AVal.undef).length = E.length + 1 + k := by simp; omega
      have hl1 : i + [(AVal.int .i64) x].length ≤ (List.take i (E ++ List.replicate j AVal.undef) ++ List.replicate (E.length + 1 - i) (AVal.int .i64 0) ++ List.replicate k AVal.undef).length := by rw [hl0]; simp; omega
      refine gb_by (dt ⟨hU, by omega⟩) (gb_by (dt (by omega)) (gb_by (dtt (dt ⟨trivial, ?_, fun _ => noLocL_take _ rfl⟩)) (gb_by (dt (by omega)) (gb_by (dt (by omega)) (gb_by (dtt (dt ⟨?_, ?_, fun _ => noLocL_take _ (noLocL_drop _ hNL)⟩)) ?_)))))
      · rw [hl0]; omega
      · exact dt (by omega)
      · rw [setRange_length (by first | exact hl1 | simpa using hl1), hl0]; omega
      · obtain ⟨tl, htl⟩ := ins_mid (E := E) (J := List.replicate j AVal.undef) (U := List.replicate k AVal.undef) ((AVal.int .i64) x) (AVal.int .i64 0) (show i ≤ E.length by omega)
        refine .inr ⟨1, i + (E.length + 1 - i) + k, tl, ?_, ?_, by omega⟩
        · congr 1; omega
        · simp only [List.take_take, Nat.min_self, List.take_succ_cons, List.take_zero] 
          rw [← htl]
          rfl
    · have hroom : E.length + 1 ≤ c := by simp at h; omega
      have hl1 : (((E ++ List.replicate j AVal.undef).drop i).take (E.length - i)).length = E.length - i := by simp; omega
      have h1 : i + 1 + (((E ++ List.replicate j AVal.undef).drop i).take (E.length - i)).length ≤ (E ++ List.replicate j AVal.undef).length := by rw [hl1, hlc]; omega
      refine gb_by (dt (by omega)) (gb_by (dt (by omega)) (gb_by (dt ⟨by omega, by rw [hlc]; omega⟩) (gb_by (dt (by omega)) (gb_by (dt (by omega)) (gb_by (dtt (dt ⟨dt (by rw [hlc]; omega), by rw [hlc]; omega, fun _ => ?_⟩)) (gb_by (dt (by omega)) (gb_by (dtt (dt ⟨trivial, ?_, fun _ => noLocL_take _ rfl⟩)) ?_)))))))
      · exact noLocL_take _ (noLocL_drop _ hNL)
      · rw [setRange_length h1, hlc]; omega
      · obtain ⟨tl, htl⟩ := ins_shift (E := E) (J := List.replicate j AVal.undef) ((AVal.int .i64) x) (show i ≤ E.length by omega) (by simp; omega)
        exact .inr ⟨0, c, tl, rfl, by rw [← htl]; rfl, hcm⟩

theorem insC_ofI {es : List AVal} (h : es.all isI64 = true) (i : Nat) (x : Int) : insC es i ((AVal.int .i64) x) = iv (insL (es.map AVal.intOf) i x) := by
  conv => lhs; rw [iv_of h]
  exact insC_map (AVal.int .i64) _ i x
theorem insI_ok : EntOk Try.prog insIE := by
  intro xs σ; simp only [insIE]; split
  · rename_i k n i x
    split
    · rename_i es s g hk
      intro hc
      simp only [Bool.and_eq_true, hold_eq, decide_eq_true_eq] at hc
      obtain ⟨h1, h2, h3, rfl, h5, h6, h7⟩ := hc
      have h1 := Nat.eq_of_beq_eq_true h1
      have h2 := Nat.eq_of_beq_eq_true h2
      subst h1; subst h2
      obtain ⟨j, rfl⟩ : ∃ j : Nat, i = (j : Int) := ⟨i.toNat, by omega⟩
      simp only [Int.toNat_natCast]
      have e := iv_of h3
      have hw : WkL [.slice [(AVal.int .i64) x] 1 .full] [.slice [(AVal.int .i64) x] 1 .ro] := .cons (Wk.ro _ _ _) (.refl _)
      have hi := insC_ofI h3 j x
      refine ACall.openRow (es' := insC es j ((AVal.int .i64) x)) hk (by rw [e]; exact iv_noOut 0 _) (by rw [e]; exact iv_noTok 0 _) rfl rfl (by rw [hi]; exact iv_noOut 0 _) (by rw [hi]; exact iv_noTok 0 _) (fun y hy => ?_) (fun he => ?_) (fun jj c c1 c2 c3 => ?_)
      · rw [hi] at hy
        obtain ⟨z, _, rfl⟩ := List.mem_map.1 hy
        rfl
      · subst he
        have hj : j = 0 := by simp at h6; omega
        subst hj
        refine ACall.args (insIH_i 0 x _ (.ofX [] rfl trivial ovOkI) ?_) (.cons (.refl _) (.cons (.refl _) hw))
        simp only [hold_eq]
        refine gb_by (dt (by omega)) (brV_by (fun h => by cases h) fun _ => brV_by (fun _ => ?_) (fun h => by simp at h))
        exact Wk.ro _ _ _
      · have := insI_c (es.map AVal.intOf) j x (by simp; omega) (by simpa using h7) jj c (by rw [← e]; exact c1) (by rw [← e]; exact c2) c3
        rw [← e] at this
        exact ACall.args this (.cons (.refl _) (.cons (.refl _) hw))
    · trivial
  · trivial

theorem cloneIS_c (l : List Int) (hl : l.length ≤ 1000000) : ACall Try.prog 33 [.slice (iv l) 1 .ro] Sto.empty fun r _ => Wk r (.slice (iv l) 1 .ro) := by
  have hn : (iv l).length = l.length := iv_length l
  refine cloneIS_i l _ (.of_none rfl) ?_
  simp only [hold_eq, true_and]
  intro b hb _
  refine brV_by (fun h => ?_) (fun h => ?_)
  · have hb1 : b = true := by simpa using h
    have : iv l = [] := List.isEmpty_iff.1 (hb hb1)
    rw [this]
    exact Wk.nil _ _ _
  · exact gb_by (by simp only [true_or, true_and, and_true, decide_eq_true_eq, Nat.zero_add]; omega) (by rw [List.nil_append]; exact Wk.ro _ _ _)
theorem cloneIS_ok : EntOk Try.prog cloneISE := by
  intro xs σ; simp only [cloneISE]; split
  · rename_i es s t
    intro hc
    simp only [Bool.and_eq_true, hold_eq, decide_eq_true_eq] at hc
    obtain ⟨h1, h2, h3⟩ := hc
    have e := iv_of h2
    have ho : noOutL 0 es = true := by rw [e]; exact iv_noOut 0 _
    have ht : noTokL 0 es = true := by rw [e]; exact iv_noTok 0 _
    have := cloneIS_c (es.map AVal.intOf) (by simpa using h3)
    rw [← e] at this
    exact pcall_of (.cons (by have := wk_iv t h1 h2; rwa [← e] at this) (.refl _)) this (by simp only [noOutL, AVal.noOut, ho, Bool.and_true]) (by simp only [noTokL, AVal.noTok, ht, Tag.below, Bool.and_true]) (by simp only [AVal.noOut, ho]) (by simp only [AVal.noTok, ht, Tag.below, Bool.and_true])
  · trivial

end Go.Proofs.Ytjdjecaclbdhhaa
end

section
namespace Go.Proofs.Ytjdjecaclbdhhaa
open Go.AL
set_option linter.unusedSimpArgs false
set_option linter.unusedVariables false
set_option maxHeartbeats 2000000
set_option maxRecDepth 20000

theorem ownM_ok : EntOk Try.prog ownME := by
  intro xs σ; simp only [ownME]; split
  · rename_i v
    intro hc
    simp only [ckM, Bool.and_eq_true] at hc
    obtain ⟨h1, h2⟩ := hc
    have h2 := lenM_of h2
    refine ACall.args (args := [ckV (ckOf v)]) ?_ (.cons (wk_ck h1) (.refl _))
    refine ownM_i σ (ckOf v) _ (.of [cloneIE] rfl ⟨cloneI_ok, trivial⟩) ?_
    rw [hold_eq, iv_length]
    exact gb_by (and_tt (iv_isI64 _) (dt h2)) ⟨rfl, rfl⟩
  · trivial
theorem ownS_ok : EntOk Try.prog ownSE := by
  intro xs σ; simp only [ownSE]; split
  · rename_i v
    intro hc
    simp only [ckM, Bool.and_eq_true] at hc
    obtain ⟨h1, h2⟩ := hc
    have h2 := lenM_of h2
    refine pcall_of (.cons (wk_ck h1) (.refl _)) (ownS_i (ckOf v) _ (.of [cloneISE] rfl ⟨cloneIS_ok, trivial⟩) ?_) (by simp only [noOutL, ck_noOut, Bool.and_true]) (by simp only [noTokL, ck_noTok, Bool.and_true]) (ck_noOut 0 (ckOf v)) (ck_noTok 0 (ckOf v))
    rw [hold_eq, iv_length]
    exact gb_by (and_tt (iv_isI64 _) (dt h2)) (Wk.refl _)
  · trivial
end Go.Proofs.Ytjdjecaclbdhhaa
end
