/-
  Seat 06 (epoch): Least, walked with the kit.
-/
import Derived.Test.YtlchgobakkodbaaEV
import Derived.Test.YtlchgobakkodbaaEL
import Derived.WalkKit
import Derived.WalkSmall
import Derived.Laws.OwnMore
import Derived.Maps.AppendAt
import Derived.Maps.OwnSet
import Derived.BigCall
import Derived.BigGuard
import Derived.BigRegion
import Derived.Deep.RegionHeldLaw
import Derived.Deep.DrawnRows
namespace Go.Proofs
open Go.RowKit Go.Maps Go.Shelf
set_option linter.unusedSimpArgs false
set_option linter.unusedVariables false
set_option maxHeartbeats 4000000
set_option maxRecDepth 1000000
attribute [local go_sem ↓] Go.wp_at_zero Go.wp_at_succ
theorem intInfo : (Try.prog.info? 3).map (fun i => (i.zero, i.size, i.bytes)) = some (some (.int .i64 0), 1, 8) := by kernel_rfl
def ivs (l : List Int) : List Value := l.map (Value.int .i64)
theorem run_appI {w : World} {base : Nat} {v : Value} {l m : List Int} {ad : Addr} {c : Nat} (hr : w.ownsRow base 3 1 v l.length (ivs l)) (hs : ∀ j x, (ivs m)[j]? = some x → w.cell? (ad.add j) = some x) (hb : base ≤ w.heap.size) (hlim : l.length + m.length ≤ 1000000000) (ty : TypeId) :
    ∃ v' w', (Builtin.append_ #[54, 54] ty #[v, .slice (some ad) m.length c]).run Try.prog w = .ok v' w' ∧ w'.ownsRow base 3 1 v' (l ++ m).length (ivs (l ++ m)) ∧ w.grownBy w' v.ownBlock ∧ (v'.ownBlock = v.ownBlock ∨ v'.ownBlock = some w.heap.size) := by
  obtain ⟨i0, hi, hz0, hz1, hz2⟩ := info_parts intInfo
  obtain ⟨v', w', h1, h2, h3, h4, h5⟩ := run_append_own_at (P := Try.prog) w base 54 ty 3 i0 (.int .i64 0) 1 8 Try.underlying54 hi hz0 hz1 hz2 rfl (by decide) v l.length (ivs l) hr ad m.length c (ivs m) (by simp [ivs]) hs (fun v hv => by obtain ⟨x, _, rfl⟩ := List.mem_map.1 hv; rfl) (by unfold maxLen; omega) (by omega) hb
  exact ⟨v', w', h1, by rw [List.length_append]; simpa [ivs] using h2, h3, h5⟩
theorem step_appI {w : World} {ops : Array Oper} {o : Oper} {a : Act} {K : Act → World → Prop} {Q : Exit → Act → World → Prop} {E : Prop} (hgd : o.guard = none) {base : Nat} {v : Value} {l m : List Int} {ad : Addr} {c n : Nat} (s x : Operand)
    (ho : o.op = .call { callee := .builtin .append, args := #[s, x], argTypes := #[54, 54] }) (hsv : a.eval s = v) (hn : n = m.length) (hxv : a.eval x = .slice (some ad) n c)
    (hr : w.ownsRow base 3 1 v l.length (ivs l)) (hs : ∀ j x, (ivs m)[j]? = some x → w.cell? (ad.add j) = some x) (hb : base ≤ w.heap.size) (hlim : l.length + m.length ≤ 1000000000)
    (h : ∀ v' w', w'.ownsRow base 3 1 v' (l ++ m).length (ivs (l ++ m)) → w.grownBy w' v.ownBlock → (v'.ownBlock = v.ownBlock ∨ v'.ownBlock = some w.heap.size) → K (a.put o.dst v') w') :
    if Region.wanted o (yielded ops a.tmps) = true then Oper.wp Try.prog o a w K Q else E := by
  subst hn
  have hw : Region.wanted o (yielded ops a.tmps) = true := by simp [Region.wanted, hgd]
  rw [if_pos hw]
  obtain ⟨v', w', hr, h2, h3, h4⟩ := run_appI (c := c) hr hs hb hlim o.type
  unfold Oper.wp execOp
  simp only [ho, resolve, invoke, builtin, Sem.run_bind, Sem.run_pure, Result.andThen_ok, List.map_toArray, List.map_cons, List.map_nil, hsv, hxv, hr]
  exact h v' w' h2 h3 h4
theorem values_walk (mb : Option Nat) (w : World) :
    Calls Try.prog 23 #[.map mb] w fun e w' => e = .returned (.func (.func 27) #[] #[.pointer (some ⟨w.heap.size, 0, none⟩)]) ∧ w' = w.alloc (.cells #[.map mb] 49) := by
  go_enter Try.func23, Try.ntmps23
  go_wp2
  go_ret
  exact ⟨rfl, rfl⟩
theorem collect_walk {w : World} {Bm b nn : Nat} {D0 : DataW Nat} (hBm : Bm < w.heap.size) (hm : w.cell? ⟨Bm, 0, none⟩ = some (.map (some b))) (hown : w.ownsMap Try.prog 3 (plainElem Try.prog 3) b nn D0) (hsz : Maps.size D0 ≤ 1000000) :
    Calls Try.prog 22 #[.func (.func 27) #[] #[.pointer (some ⟨Bm, 0, none⟩)]] w fun e w' => ∃ (v : Value) (xs : List Int), e = .returned v ∧ (∃ ps, AllOfI D0 ps ∧ xs = ps.map (·.2)) ∧ w'.ownsRow w.heap.size 3 1 v xs.length (ivs xs) ∧ Below w.heap.size w w' := by
  refine (callsIn_wide (n := 6)).1 ?_
  have h := AnyZI.collect_in Try.collectZ Fence.wide 6 trivial trivial rfl (by omega) 27 #[.pointer (some ⟨Bm, 0, none⟩)] trivial (enters_of Try.func27 (by kernel_rfl) rfl) _ (Maps.size D0) (by unfold maxLen; omega) (by omega) w
    (values_gives Fence.wide 4 trivial rfl (by omega) Bm b nn D0 w hBm hm hown)
  change CallsIn _ _ Try.prog 22 _ _ _ at h
  refine h.mono ?_
  rintro e w' ⟨v, xs, h1, h2, h3, h4, h5⟩
  exact ⟨v, xs, h1, h2, h3, h5⟩
def wdInt : Value → Int
  | .int _ n => n
  | _ => 0
/-- The least of a row. -/
def minL (x : Int) (l : List Int) : Int := l.foldl min x
theorem min_walk {w : World} {g cap : Nat} {x : Int} {l : List Int} {base : Nat} (hr : w.ownsRow base 3 1 (.slice (some ⟨g, 0, none⟩) (x :: l).length cap) (x :: l).length (ivs (x :: l))) (hl : l.length ≤ 1000000) :
    Calls Try.prog 21 #[.slice (some ⟨g, 0, none⟩) (x :: l).length cap] w fun e w' => e = .returned (.int .i64 (minL x l)) ∧ w' = w := by
  have hc : ∀ j, (h : j < (x :: l).length) → w.cell? ⟨g, j, none⟩ = some (.int .i64 (x :: l)[j]) := fun j hj => by
    rw [hr.cellAt j (by omega)]
    unfold ivs
    rw [List.getElem?_map, List.getElem?_eq_getElem hj]
    rfl
  have hc0 : w.cell? ⟨g, 0, none⟩ = some (.int .i64 x) := hc 0 (by simp)
  have hlen : (x :: l).length = l.length + 1 := rfl
  rw [hlen] at hr ⊢
  go_enter Try.func21, Try.ntmps21
  go_wp2
  go_loopw [3, 4] (fun m i wr => ∃ k : Nat, k ≤ l.length ∧ i = .int .i64 ((k : Int) + 1) ∧ m = .int .i64 (minL x (l.take k)) ∧ w = wr)
    (fun _ i _ => l.length + 1 - (wdInt i).toNat)
  case atStart => exact ⟨0, Nat.zero_le _, rfl, rfl, rfl⟩
  case round =>
    obtain ⟨k, hk, rfl, rfl, rfl⟩ := hrel
    by_cases hlt : k < l.length
    · have hck : w.cell? ⟨g, k + 1, none⟩ = some (.int .i64 l[k]) := hc (k + 1) (by simp; omega)
      have hst : minL x (l.take (k + 1)) = min (minL x (l.take k)) l[k] := by
        unfold minL
        rw [List.take_succ_eq_append_getElem hlt, List.foldl_append]
        rfl
      have i1 : (0 : Int) ≤ (k : Int) + 1 := by omega
      have hrel' : ∃ k' : Nat, k' ≤ l.length ∧ Value.int .i64 ((k : Int) + 1 + 1) = .int .i64 ((k' : Int) + 1) ∧ Value.int .i64 (if l[k] < minL x (l.take k) then l[k] else minL x (l.take k)) = .int .i64 (minL x (l.take k')) ∧ True :=
        ⟨k + 1, hlt, by simp, by rw [hst]; congr 1; split <;> omega, trivial⟩
      clear hst hc
      generalize l[k] = y at *
      generalize minL x (l.take k) = mm at *
      go_wp2
      exact ⟨hrel', by simp only [wdInt]; omega⟩
    · have hk' : k = l.length := by omega
      subst hk'
      rw [List.take_length]
      go_wp2
      go_ret
      exact ⟨rfl, rfl⟩
/-- A table as the kit sees it. -/
def TabP (w : World) (p b : Nat) (s g : Int) (D : DataW Nat) (C : Nat) : Prop :=
  w.heap[p]? = some (.cells #[.int .i64 s, .int .i64 g, .map (some b)] 51 (0, 0)) ∧ ∃ nn, nn ≤ C ∧ w.ownsMap Try.prog 3 (plainElem Try.prog 3) b nn D
/-- The least of the global epoch and those in the map. -/
def IsLeast (D : DataW Nat) (g m : Int) : Prop := ∃ ps, AllOfI D ps ∧ ∃ y ys, ps.map (·.2) ++ [g] = y :: ys ∧ m = minL y ys
theorem cells_at {w : World} {b : Nat} {vs : Array Value} {T : TypeId} (h : w.heap[b]? = some (.cells vs T (0, 0))) (j : Nat) : w.cell? ⟨b, j, none⟩ = vs[j]? := by
  simp only [World.cell?, h]
  rfl
theorem frz_at {w : World} {b : Nat} {vs : Array Value} {T : TypeId} (h : w.heap[b]? = some (.cells vs T (0, 0))) (j : Nat) : w.frozen? ⟨b, j, none⟩ = false := by
  simp only [World.frozen?, h]
  simp
theorem ownsMap_grow {w w' : World} {b nn : Nat} {D : DataW Nat} (h : w.ownsMap Try.prog 3 (plainElem Try.prog 3) b nn D) (hb : w'.heap[b]? = w.heap[b]?) : w'.ownsMap Try.prog 3 (plainElem Try.prog 3) b nn D := by
  obtain ⟨es, clock, hb', r⟩ := h
  exact ⟨es, clock, hb.trans hb', r⟩
theorem values_b {w W : World} (mb : Option Nat) (h : Below w.heap.size w W) :
    Calls Try.prog 23 #[.map mb] W fun e W' => e = .returned (.func (.func 27) #[] #[.pointer (some ⟨W.heap.size, 0, none⟩)]) ∧ W'.cell? ⟨W.heap.size, 0, none⟩ = some (.map mb) ∧ Below w.heap.size w W' ∧ Below W.heap.size W W' ∧ True := by
  refine (values_walk mb W).mono ?_
  rintro e W' ⟨rfl, rfl⟩
  exact ⟨rfl, World.cell?_alloc_at _ _ _ _ rfl, h.alloc h.size _, (Below.refl _ _).alloc (Nat.le_refl _) _, trivial⟩
theorem collect_b {w W : World} {Bm b nn : Nat} {D0 : DataW Nat} (h : Below w.heap.size w W) (hown : w.ownsMap Try.prog 3 (plainElem Try.prog 3) b nn D0) (hsz : Maps.size D0 ≤ 1000000) (hm : W.cell? ⟨Bm, 0, none⟩ = some (.map (some b))) :
    Calls Try.prog 22 #[.func (.func 27) #[] #[.pointer (some ⟨Bm, 0, none⟩)]] W fun e W' => ∃ (v : Value) (xs : List Int), e = .returned v ∧ (∃ ps, AllOfI D0 ps ∧ xs = ps.map (·.2)) ∧ W'.ownsRow w.heap.size 3 1 v xs.length (ivs xs) ∧ Below w.heap.size w W' ∧ Below W.heap.size W W' := by
  refine (collect_walk (World.block_lt_of_cell? _ _ hm) hm (ownsMap_grow hown (h.block b hown.lt)) hsz).mono ?_
  rintro e W' ⟨v, xs, h1, h2, h3, h4⟩
  refine ⟨v, xs, h1, h2, ⟨h3.1, ?_⟩, h.trans (h4.mono h.size), h4⟩
  rcases h3.2 with hn | ⟨g, cap, cur, e1, e2, e3⟩
  · exact .inl hn
  · exact .inr ⟨g, cap, cur, e1, by have := h.size; omega, e3⟩
theorem min_b {w : World} {v : Value} {l : List Int} {base : Nat} (hr : w.ownsRow base 3 1 v l.length (ivs l)) (hl : l.length ≤ 1000000) (h0 : l ≠ []) :
    Calls Try.prog 21 #[v] w fun e w' => ∃ y ys, l = y :: ys ∧ e = .returned (.int .i64 (minL y ys)) ∧ w' = w := by
  cases l with
  | nil => exact (h0 rfl).elim
  | cons y ys =>
    obtain ⟨g, cap, rfl⟩ : ∃ g cap, v = .slice (some ⟨g, 0, none⟩) (y :: ys).length cap := by
      rcases hr.2 with ⟨h1, h2⟩ | ⟨g, cap, cur, h1, _⟩
      · simp at h2
      · exact ⟨g, cap, h1⟩
    exact (min_walk hr (by simp at hl; omega)).mono fun e w' ⟨h1, h2⟩ => ⟨y, ys, rfl, h1, h2⟩
theorem cellA {w : World} {a : Addr} {v : Value} (h : w.cell? a = some v) (o : Obj) : (w.alloc o).cell? a = some v := by
  rw [World.cell?_of_block (a := a) (w := w) (w' := w.alloc o)]
  · exact h
  · exact Below.heap_alloc _ _ _ (World.block_lt_of_cell? _ _ h)
theorem cell1 {w : World} {q : Nat} {g : Int} (h : w.cell? ⟨q, 0, none⟩ = some (.int .i64 g)) : ∀ j x, (ivs [g])[j]? = some x → w.cell? ((⟨q, 0, none⟩ : Addr).add j) = some x := by
  intro j x hj
  match j, hj with
  | 0, hj => cases hj; exact h
theorem least_walk {w : World} {p b C : Nat} {s g : Int} {D : DataW Nat} (h : TabP w p b s g D C) (hC : C ≤ 100000) :
    Calls Try.prog 11 #[.pointer (some ⟨p, 0, none⟩)] w fun e w' => ∃ m, e = .returned (.int .i64 m) ∧ IsLeast D g m ∧ Below w.heap.size w w' := by
  obtain ⟨hh, nn, hnn, hown⟩ := h
  have hp := (Array.getElem?_eq_some_iff.1 hh).1
  have hbl := hown.lt
  have hsz : Maps.size D ≤ 100000 := by have := hown.size_le; omega
  have hsz1 : Maps.size D ≤ 1000000 := by omega
  have hln : ∀ xs : List Int, (∃ ps, AllOfI D ps ∧ xs = ps.map (·.2)) → xs.length ≤ 100000 := fun xs ⟨ps, h1, h2⟩ => by rw [h2, List.length_map]; have := h1.2.2.2.1; omega
  have c1 := cells_at hh 1
  have c2 := cells_at hh 2
  simp only [List.getElem?_toArray, List.getElem?_cons_zero, List.getElem?_cons_succ] at c1 c2
  have fS : ∀ W, Below w.heap.size w W → W.cell? ⟨p, 1, none⟩ = some (.int .i64 g) ∧ W.cell? ⟨p, 2, none⟩ = some (.map (some b)) := fun W h => ⟨(h.cell (p := ⟨p, 1, none⟩) hp).trans c1, (h.cell (p := ⟨p, 2, none⟩) hp).trans c2⟩
  go_enter Try.func11, Try.ntmps11
  have hW : Below w.heap.size w w.drew := (Below.refl _ _).drew
  have hq0 : (w.alloc (.cells #[.int .i64 g] 3)).drew.cell? ⟨w.heap.size, 0, none⟩ = some (.int .i64 g) := by
    show (w.alloc (.cells #[.int .i64 g] 3)).cell? ⟨w.heap.size, 0, none⟩ = _
    exact World.cell?_alloc_at _ _ _ _ rfl
  have hq1 : w.heap.size < (w.alloc (.cells #[.int .i64 g] 3)).drew.heap.size := by simp
  go_wp2
  go_region_held_law (fun w' => w'.cell? ⟨p, 1, none⟩ = some (.int .i64 g) ∧ w'.cell? ⟨p, 2, none⟩ = some (.map (some b)))
    (first | exact fS _ hW | exact fS _ (hW.alloc hW.size _))
    (first
      | (go_at_call 23; refine Calls.mono (values_b (w := w) (some b) ?_) ?_; (· first | exact hW | exact hW.alloc hW.size _); clear hW; rintro e W1 ⟨rfl, hBm, hW, hV, _⟩)
      | (go_at_call 22; refine Calls.mono (collect_b (w := w) (nn := nn) ?_ hown hsz1 ?_) ?_; (· first | exact hW | exact hW.alloc hW.size _); (· first | exact hBm | exact cellA hBm _ | simpa using hBm); clear hW; rintro e W2 ⟨v, xs, rfl, hxs, hrow, hW, hCb⟩)
      | (refine step_appI (by rfl) (l := xs) (m := [g]) (n := 1) (ad := ⟨W2.heap.size, 0, none⟩) (c := 1) (.tmp 8) (.tmp 13) (by rfl) (by rfl) (by rfl) (by rfl) (hrow.alloc _) ?_ ?_ ?_ ?_
         (· exact cell1 (World.cell?_alloc_at _ _ _ _ rfl))
         (· have := hW.size; simp; omega)
         (· have := hln _ hxs; simp; omega)
         intro v4 W4 hown4 hgrow4 hat4
         replace hW := (hW.alloc hW.size (.cells #[.int .i64 g] 3)).grown hgrow4 (by have := hW.size; simp; omega) (fun k hk => (hrow.lt k hk).1))
      | (refine step_appI (by rfl) (l := xs) (m := [g]) (n := 1) (ad := ⟨W1.heap.size, 0, none⟩) (c := 1) (.tmp 8) (.tmp 13) (by rfl) (by rfl) (by rfl) (by rfl) hrow ?_ ?_ ?_ ?_
         (· exact cell1 ((hCb.cell (p := ⟨W1.heap.size, 0, none⟩) (by simp)).trans (World.cell?_alloc_at _ _ _ _ rfl)))
         (· have := hW.size; simp; omega)
         (· have := hln _ hxs; simp; omega)
         intro v4 W4 hown4 hgrow4 hat4
         replace hW := hW.grown hgrow4 hW.size (fun k hk => (hrow.lt k hk).1))
      | (refine step_appI (by rfl) (l := xs) (m := [g]) (n := 1) (ad := ⟨w.heap.size, 0, none⟩) (c := 1) (.tmp 8) (.tmp 13) (by rfl) (by rfl) (by rfl) (by rfl) hrow ?_ ?_ ?_ ?_
         (· exact cell1 ((hCb.cell (p := ⟨w.heap.size, 0, none⟩) (Nat.lt_of_lt_of_le hq1 hV.size)).trans ((hV.cell (p := ⟨w.heap.size, 0, none⟩) hq1).trans hq0)))
         (· have := hW.size; simp; omega)
         (· have := hln _ hxs; simp; omega)
         intro v4 W4 hown4 hgrow4 hat4
         replace hW := hW.grown hgrow4 hW.size (fun k hk => (hrow.lt k hk).1))
      | (go_at_call 21; refine Calls.mono (min_b hown4 ?_ ?_) ?_; (· have := hln _ hxs; simp; omega); (· simp); rintro e W5 ⟨y, ys, hyy, rfl, rfl⟩))
  all_goals
    obtain ⟨ps, hps, rfl⟩ := hxs
    go_wp2
    go_ret
    exact ⟨_, rfl, ⟨ps, hps, y, ys, hyy, rfl⟩, hW⟩
end Go.Proofs
