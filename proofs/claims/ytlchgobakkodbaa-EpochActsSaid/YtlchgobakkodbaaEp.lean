/-
  Seat 06 (epoch): a script's row for the kit; the law EpochApart.
-/
import Derived.Test.YtlchgobakkodbaaEZ
namespace Go.AL
set_option linter.unusedSimpArgs false
set_option linter.unusedVariables false
structure Act6 where
  k : Int
  s : Int
def Act6.a (x : Act6) : AVal := .agg [.int .i64 x.k, .int .i64 x.s]
def av6 (l : List Act6) : List AVal := l.map Act6.a
def Act6.fit (x : Act6) : Prop := -9223372036854775808 ≤ x.s ∧ x.s ≤ 9223372036854775807
theorem fits_act6 {a : AVal} (h : Fits (.agg [.int .i64, .int .i64]) a) : ∃ x : Act6, a = x.a ∧ x.fit := by
  obtain ⟨xs, rfl, h⟩ := h
  simp only [FitsL] at h
  obtain ⟨a, r, rfl, h1, a', r', rfl, h2, rfl⟩ := h
  obtain ⟨k, rfl, _, _⟩ := h1
  obtain ⟨n, rfl, h3, h4⟩ := h2
  exact ⟨⟨k, n⟩, rfl, h3, h4⟩
theorem fits_acts6 {b : Nat} {a : AVal} (h : Fits (.slice (.agg [.int .i64, .int .i64]) 2 b) a) : ∃ ks : List Act6, a = .slice (av6 ks) 2 .ro ∧ ∀ x ∈ ks, x.fit := by
  obtain ⟨es, rfl, h1, h2⟩ := h
  obtain ⟨ls, rfl, hx⟩ := map_of (f := Act6.a) (P := Act6.fit) fun e he => fits_act6 (h2 e he)
  exact ⟨ls, rfl, hx⟩
theorem flat_av6 : ∀ (l : List Act6), flat (av6 l) = l.flatMap fun x => [.int .i64 x.k, .int .i64 x.s]
  | [] => rfl
  | x :: l => by
    have := flat_av6 l
    simp only [av6, flat, List.map_cons, List.flatMap_cons] at this ⊢
    rw [this]; rfl
theorem flat_av6_get : ∀ (l : List Act6) (i : Nat) (h : i < l.length), (flat (av6 l))[i * 2]? = some (.int .i64 l[i].k) ∧ (flat (av6 l))[i * 2 + 1]? = some (.int .i64 l[i].s)
  | [], i, h => by simp at h
  | x :: l, 0, h => by rw [flat_av6]; exact ⟨rfl, rfl⟩
  | x :: l, i + 1, h => by
    have ih := flat_av6_get l i (by simpa using h)
    rw [flat_av6] at ih ⊢
    have n0 : (i + 1) * 2 = i * 2 + 1 + 1 := by omega
    have n1 : (i + 1) * 2 + 1 = i * 2 + 1 + 1 + 1 := by omega
    rw [n1, n0]
    simp only [List.flatMap_cons, List.cons_append, List.nil_append, List.getElem?_cons_succ]
    exact ih
end Go.AL
namespace Go.Proofs.Ytlchgobakkodbaa
open Go.AL
set_option linter.unusedSimpArgs false
set_option linter.unusedVariables false
/-- A script's row, for the kit. -/
def ActsP (w : World) (v : Value) (l : List Act6) : Prop :=
  (l = [] ∧ ∃ a, v = .slice a 0 0) ∨
  ∃ b off cap, v = .slice (some ⟨b, off, none⟩) l.length cap ∧ ∀ i (h : i < l.length), b < w.heap.size ∧ w.cell? ⟨b, off + i * 2, none⟩ = some (.int .i64 l[i].k) ∧ w.cell? ⟨b, off + i * 2 + 1, none⟩ = some (.int .i64 l[i].s)
theorem rep_acts {γ : Gh} {w : World} {b : Bool} {l : List Act6} {v : Value} {t : Tag} (h : Rep γ w b (.slice (av6 l) 2 t) v) : ActsP w v l := by
  generalize he : av6 l = es at h
  cases h with
  | @sliceRow _ _ _ _ b off cap vs h1 h2 h3 h4 h5 h6 h7 =>
    subst he
    refine .inr ⟨b, off, cap, by simp [av6], fun i hi => ?_⟩
    obtain ⟨g0, g1⟩ := flat_av6_get l i hi
    obtain ⟨u0, hu0, hr0⟩ := h1.get g0
    obtain ⟨u1, hu1, hr1⟩ := h1.get g1
    cases hr0; cases hr1
    have hc0 := (h3 _ _ hu0).2
    have hc1 := (h3 _ _ hu1).2
    exact ⟨World.block_lt_of_cell? _ _ hc0, hc0, hc1⟩
  | sliceNil => exact .inl ⟨(by cases l with | nil => rfl | cons => cases he), _, rfl⟩
end Go.Proofs.Ytlchgobakkodbaa
namespace Go.Proofs
open Go.RowKit Go.Maps Go.Shelf Ytlchgobakkodbaa
set_option linter.unusedSimpArgs false
set_option linter.unusedVariables false
set_option maxHeartbeats 4000000
set_option maxRecDepth 1000000
/-- What was, as far as it has been asked. -/
def wasI (f : Int → Option Int) (k : Nat) : Array Value := #[.int .i64 (if 0 < k then (f 0).getD 0 else 0), .int .i64 (if 1 < k then (f 1).getD 0 else 0), .int .i64 (if 2 < k then (f 2).getD 0 else 0), .int .i64 (if 3 < k then (f 3).getD 0 else 0), .int .i64 (if 4 < k then (f 4).getD 0 else 0)]
def wasB (f : Int → Option Int) (k : Nat) : Array Value := #[.bool (if 0 < k then (f 0).isSome else false), .bool (if 1 < k then (f 1).isSome else false), .bool (if 2 < k then (f 2).isSome else false), .bool (if 3 < k then (f 3).isSome else false), .bool (if 4 < k then (f 4).isSome else false)]
theorem wasI_set (f : Int → Option Int) : ∀ k, k < 5 → (wasI f k).setIfInBounds k (.int .i64 ((f k).getD 0)) = wasI f (k + 1)
  | 0, _ => rfl
  | 1, _ => rfl
  | 2, _ => rfl
  | 3, _ => rfl
  | 4, _ => rfl
  | n + 5, h => by omega
theorem wasB_set (f : Int → Option Int) : ∀ k, k < 5 → (wasB f k).setIfInBounds k (.bool (f k).isSome) = wasB f (k + 1)
  | 0, _ => rfl
  | 1, _ => rfl
  | 2, _ => rfl
  | 3, _ => rfl
  | 4, _ => rfl
  | n + 5, h => by omega
theorem wasI_get (f : Int → Option Int) : ∀ k, k < 5 → (wasI f 5)[k]? = some (.int .i64 ((f k).getD 0))
  | 0, _ => rfl
  | 1, _ => rfl
  | 2, _ => rfl
  | 3, _ => rfl
  | 4, _ => rfl
  | n + 5, h => by omega
theorem wasB_get (f : Int → Option Int) : ∀ k, k < 5 → (wasB f 5)[k]? = some (.bool (f k).isSome)
  | 0, _ => rfl
  | 1, _ => rfl
  | 2, _ => rfl
  | 3, _ => rfl
  | 4, _ => rfl
  | n + 5, h => by omega
theorem wasI_has (f : Int → Option Int) (j : Nat) : ∀ k, k < 5 → ∃ n, (wasI f j)[k]? = some (.int .i64 n)
  | 0, _ => ⟨_, rfl⟩
  | 1, _ => ⟨_, rfl⟩
  | 2, _ => ⟨_, rfl⟩
  | 3, _ => ⟨_, rfl⟩
  | 4, _ => ⟨_, rfl⟩
  | n + 5, h => by omega
theorem wasB_has (f : Int → Option Int) (j : Nat) : ∀ k, k < 5 → ∃ n, (wasB f j)[k]? = some (.bool n)
  | 0, _ => ⟨_, rfl⟩
  | 1, _ => ⟨_, rfl⟩
  | 2, _ => ⟨_, rfl⟩
  | 3, _ => ⟨_, rfl⟩
  | 4, _ => ⟨_, rfl⟩
  | n + 5, h => by omega
theorem Tk.other {w0 W : World} {p b C : Nat} {s g : Int} {f : Int → Option Int} (h : Tk w0 W p b s g f C) {k o : Nat} (v : Value) (h1 : k ≠ p) (h2 : k ≠ b) (h3 : w0.heap.size ≤ k) : Tk w0 (W.setCell ⟨k, o, none⟩ v) p b s g f C := by
  obtain ⟨⟨D, ⟨a1, nn, a2, a3⟩, a4⟩, b1, b2, b3⟩ := h
  have ho : ∀ j, j ≠ k → (W.setCell ⟨k, o, none⟩ v).heap[j]? = W.heap[j]? := fun j hj => heap_setCell_other _ _ _ _ hj
  exact ⟨⟨D, ⟨by rw [ho p (Ne.symm h1)]; exact a1, nn, a2, ownsMap_grow a3 (ho b (Ne.symm h2))⟩, a4⟩, b1, b2, b3.trans ⟨rfl, rfl, rfl, by simp, fun j hj => ho j (by omega)⟩⟩
/-- A table that others' sessions are as they were. -/
def Acted (w0 W W' : World) (p b : Nat) (f : Int → Option Int) (C : Nat) (who : Int → Prop) : Prop :=
  ∃ g' f' C', C' ≤ C + 1 ∧ 3 ≤ g' ∧ g' ≤ 2147483647 ∧ Tk w0 W' p b 5 g' f' C' ∧ (∀ y, ¬ who y → f' y = f y) ∧ ChgT p b W W'
theorem ChgT.refl (p b : Nat) (W : World) : ChgT p b W W := ⟨rfl, rfl, rfl, Nat.le_refl _, fun _ _ _ _ => rfl⟩
theorem enter_a {w0 W : World} {p b C : Nat} {g : Int} {f : Int → Option Int} (h : Tk w0 W p b 5 g f C) (hC : C ≤ 100000) (x : Int) (hx : WFi x) (h3 : 3 ≤ g) (hM : g ≤ 2147483647) :
    Calls Try.prog 9 #[.pointer (some ⟨p, 0, none⟩), .int .i64 x] W fun e w' => (∃ a c, e = .returned (.tuple #[.int .i64 a, .int .i64 c])) ∧ Acted w0 W w' p b f C (fun y => y = x) := by
  by_cases he : isV 5 f x false 31 = 0
  · refine (enter_ok h.1 hC x hx (wfi (by omega) (by omega)) he).mono ?_
    rintro e w' ⟨e1, e2, e3⟩
    exact ⟨⟨_, _, e1⟩, g, _, C + 1, Nat.le_refl _, h3, hM, h.go e3 e2, fun y hy => updI_other _ _ hy, e3⟩
  · refine (enter_err h.1 x hx he).mono ?_
    rintro e w' ⟨e1, rfl⟩
    exact ⟨⟨_, _, e1⟩, g, f, C, by omega, h3, hM, h, fun y hy => rfl, .refl _ _ _⟩
theorem leave_a {w0 W : World} {p b C : Nat} {g : Int} {f : Int → Option Int} (h : Tk w0 W p b 5 g f C) (x : Int) (hx : WFi x) (h3 : 3 ≤ g) (hM : g ≤ 2147483647) :
    Calls Try.prog 12 #[.pointer (some ⟨p, 0, none⟩), .int .i64 x] W fun e w' => (∃ a, e = .returned (.int .i64 a)) ∧ Acted w0 W w' p b f C (fun y => y = x) := by
  by_cases he : isV 5 f x true 51 = 0
  · refine (leave_ok h.1 x hx he).mono ?_
    rintro e w' ⟨e1, e2, e3⟩
    exact ⟨⟨_, e1⟩, g, _, C, by omega, h3, hM, h.go e3 e2, fun y hy => updI_other _ _ hy, e3⟩
  · refine (leave_err h.1 x hx he).mono ?_
    rintro e w' ⟨e1, rfl⟩
    exact ⟨⟨_, e1⟩, g, f, C, by omega, h3, hM, h, fun y hy => rfl, .refl _ _ _⟩
theorem refresh_a {w0 W : World} {p b C : Nat} {g : Int} {f : Int → Option Int} (h : Tk w0 W p b 5 g f C) (hC : C ≤ 100000) (x : Int) (hx : WFi x) (h3 : 3 ≤ g) (hM : g ≤ 2147483647) :
    Calls Try.prog 14 #[.pointer (some ⟨p, 0, none⟩), .int .i64 x] W fun e w' => ∃ a c f' C', e = .returned (.tuple #[.int .i64 a, .int .i64 c]) ∧ (c = 0 → a = g) ∧ C' ≤ C + 1 ∧ Tk w0 w' p b 5 g f' C' ∧ (∀ y, y ≠ x → f' y = f y) ∧ ChgT p b W w' := by
  by_cases he : isV 5 f x true 51 = 0
  · refine (refresh_ok h.1 hC x hx (wfi (by omega) (by omega)) he).mono ?_
    rintro e w' ⟨e1, e2, e3⟩
    exact ⟨g, 0, _, C + 1, e1, fun _ => rfl, Nat.le_refl _, h.go e3 e2, fun y hy => updI_other _ _ hy, e3⟩
  · refine (refresh_err h.1 x hx he).mono ?_
    rintro e w' ⟨e1, rfl⟩
    exact ⟨0, _, f, C, e1, fun hc => (he hc).elim, by omega, h, fun y hy => rfl, .refl _ _ _⟩
theorem adv_a {w0 W : World} {p b C : Nat} {g : Int} {f : Int → Option Int} (h : Tk w0 W p b 5 g f C) (hC : C ≤ 100000) (h3 : 3 ≤ g) (hM : g ≤ 2147483647) :
    Calls Try.prog 8 #[.pointer (some ⟨p, 0, none⟩)] W fun e w' => (∃ a c, e = .returned (.tuple #[.int .i64 a, .int .i64 c])) ∧ Acted w0 W w' p b f C (fun _ => False) := by
  by_cases he : g = 2147483647
  · subst he
    refine (adv_max h.1).mono ?_
    rintro e w' ⟨e1, rfl⟩
    exact ⟨⟨_, _, e1⟩, _, f, C, by omega, h3, hM, h, fun y hy => rfl, .refl _ _ _⟩
  · refine (adv_walk h.1 hC he (by omega) hM).mono ?_
    rintro e w' ⟨m, _, hch, ⟨_, e1, e2⟩ | ⟨_, e1, e2⟩⟩
    · exact ⟨⟨_, _, e1⟩, g, f, C, by omega, h3, hM, h.go hch e2, fun y hy => rfl, hch⟩
    · exact ⟨⟨_, _, e1⟩, g + 1, f, C, by omega, by omega, by omega, h.go hch e2, fun y hy => rfl, hch⟩
theorem apart_walk (w : World) (v : Value) (acts : List AL.Act6) (s0 : Int) (hv : ActsP w v acts) (hfit : ∀ x ∈ acts, x.fit) :
    Calls Try.prog 4 #[v, .int .i64 s0] w fun e w' => e = .returned (.bool true) ∧ Below w.heap.size w w' := by
  have hlen : ∃ a c, v = .slice a acts.length c := by
    rcases hv with ⟨rfl, a, rfl⟩ | ⟨b, off, cap, rfl, _⟩ <;> exact ⟨_, _, rfl⟩
  obtain ⟨va, vc, hvv⟩ := hlen
  rw [hvv]
  go_enter Try.func4, Try.ntmps4
  go_wp2_with (go_at_call 6; refine (awake_walk w).mono ?_)
  rintro e w1 ⟨rfl, hb1⟩
  by_cases hl : acts.length ≤ 100
  · have hl' : ¬ (100 < (acts.length : Int)) := by omega
    go_wp2_with (go_at_call 7; refine (newT_walk 5 3 ?a1 ?a2 ?a3 ?a4).mono ?_)
    case a1 => decide
    case a2 => decide
    case a3 => decide
    case a4 => decide
    rintro e w2 ⟨rfl, hT, hb⟩
    have t1 : Tk w w2 (w1.heap.size + 1) w1.heap.size 5 3 (fun _ => none) 0 := ⟨hT, by have := hb1.size; omega, hb1.size, hb1.trans (hb.mono hb1.size)⟩
    clear hT hb hb1
    generalize w1.heap.size + 1 = p at *
    generalize hb : w1.heap.size = b at t1
    clear hb
    go_wp2
    go_loopw [7] (fun i wr => ∃ k : Nat, k ≤ acts.length ∧ i = .int .i64 k ∧ ∃ g f C, C ≤ k ∧ 3 ≤ g ∧ g ≤ 2147483647 ∧ Tk w wr p b 5 g f C)
      (fun i _ => acts.length - (wdInt i).toNat)
    case atStart => exact ⟨0, Nat.zero_le _, rfl, 3, _, 0, Nat.le_refl _, by omega, by omega, t1⟩
    case round =>
      obtain ⟨k, hk, rfl, g, f, C, hC, hg0, hg1, t2⟩ := hrel
      by_cases hlt : k < acts.length
      · rcases hv with ⟨rfl, _⟩ | ⟨bb, off, cap, hv0, hcell⟩
        · simp at hlt
        obtain ⟨rfl, rfl⟩ : va = some ⟨bb, off, none⟩ ∧ vc = cap := by rw [hvv] at hv0; cases hv0; exact ⟨rfl, rfl⟩
        obtain ⟨hbw, q0, q1⟩ := hcell k hlt
        have hxf := hfit acts[k] (List.getElem_mem hlt)
        have hltI : (k : Int) < (acts.length : Int) := by omega
        generalize acts[k] = x at *
        obtain ⟨kk, ss⟩ := x
        dsimp only at q0 q1
        have hss : WFi ss := wfi hxf.1 hxf.2
        clear hcell
        obtain ⟨W3, hW3⟩ : ∃ W3, W3 = (wr.alloc (.cells #[.int .i64 0, .int .i64 0, .int .i64 0, .int .i64 0, .int .i64 0] 34)).alloc (.cells #[.bool false, .bool false, .bool false, .bool false, .bool false] 35) := ⟨_, rfl⟩
        have hgr : Below wr.heap.size wr W3 := by rw [hW3]; exact ((Below.refl _ _).alloc (Nat.le_refl _) _).alloc (by simp) _
        have t3 := t2.grow hgr
        have hlt2 := t2.1.lt
        have hA : W3.heap[wr.heap.size]? = some (.cells (wasI f 0) 34 (0, 0)) := by
          rw [hW3, Below.heap_alloc _ _ _ (by simp)]
          exact heap_alloc_new _ _
        have hB : W3.heap[wr.heap.size + 1]? = some (.cells (wasB f 0) 35 (0, 0)) := by
          rw [hW3]
          have := heap_alloc_new (wr.alloc (.cells #[.int .i64 0, .int .i64 0, .int .i64 0, .int .i64 0, .int .i64 0] 34)) (.cells #[.bool false, .bool false, .bool false, .bool false, .bool false] 35)
          rwa [World.size_alloc] at this
        go_wp2
        rw [← hW3]
        clear hW3 hgr
        obtain ⟨n8, hn8⟩ : ∃ n8, wr.heap.size = n8 := ⟨_, rfl⟩
        rw [hn8] at hA hB hlt2 ⊢
        have h8p : n8 ≠ p := by omega
        have h8b : n8 ≠ b := by omega
        have h9p : n8 + 1 ≠ p := by omega
        have h9b : n8 + 1 ≠ b := by omega
        have h8w : w.heap.size ≤ n8 := by have := t2.below.size; omega
        clear t2
        go_loopw [10] (fun i W => ∃ j : Nat, j ≤ 5 ∧ i = .int .i64 j ∧ Tk w W p b 5 g f C ∧ W.heap[n8]? = some (.cells (wasI f j) 34 (0, 0)) ∧ W.heap[n8 + 1]? = some (.cells (wasB f j) 35 (0, 0)))
          (fun i _ => 5 - (wdInt i).toNat)
        case atStart => exact ⟨0, by omega, rfl, t3, hA, hB⟩
        case round =>
          obtain ⟨j, hj, rfl, t4, hA4, hB4⟩ := hrel
          by_cases hlt5 : j < 5
          · have hltJ : (j : Int) < 5 := by omega
            have i1 : (0 : Int) ≤ (j : Int) := by omega
            obtain ⟨n1, hn1⟩ := wasI_has f j j hlt5
            obtain ⟨n2, hn2⟩ := wasB_has f j j hlt5
            have c8 := (cells_at hA4 j).trans hn1
            have c9 := (cells_at hB4 j).trans hn2
            have z8 := frz_at hA4 j
            have z9 := frz_at hB4 j
            have hwj : WFi (j : Int) := wfi (by omega) (by omega)
            go_wp2_with (go_at_call 13; refine (in_walk t4.1 (j : Int) hwj).mono ?_)
            intro e W5
            try simp only [and_imp]
            rintro rfl rfl
            have hA5 : (W5.setCell ⟨n8, j, none⟩ (.int .i64 ((f j).getD 0))).heap[n8]? = some (.cells (wasI f (j + 1)) 34 (0, 0)) := by
              rw [heap_setCell_same _ _ _ _ _ _ hA4, wasI_set f j hlt5]
            have t5 := (t4.other (k := n8) (o := j) (.int .i64 ((f j).getD 0)) h8p h8b h8w).other (k := n8 + 1) (o := j) (.bool (f j).isSome) h9p h9b (by omega)
            have hA6 : ((W5.setCell ⟨n8, j, none⟩ (.int .i64 ((f j).getD 0))).setCell ⟨n8 + 1, j, none⟩ (.bool (f j).isSome)).heap[n8]? = some (.cells (wasI f (j + 1)) 34 (0, 0)) := by
              rw [heap_setCell_other _ _ _ _ (show n8 ≠ n8 + 1 by omega)]; exact hA5
            have hB6 : ((W5.setCell ⟨n8, j, none⟩ (.int .i64 ((f j).getD 0))).setCell ⟨n8 + 1, j, none⟩ (.bool (f j).isSome)).heap[n8 + 1]? = some (.cells (wasB f (j + 1)) 35 (0, 0)) := by
              rw [heap_setCell_same _ _ _ _ _ _ ((heap_setCell_other _ _ _ _ (show n8 + 1 ≠ n8 by omega)).trans hB4), wasB_set f j hlt5]
            have hrel : ∃ j' : Nat, j' ≤ 5 ∧ Value.int .i64 ((j : Int) + 1) = .int .i64 j' ∧ Tk w ((W5.setCell ⟨n8, j, none⟩ (.int .i64 ((f j).getD 0))).setCell ⟨n8 + 1, j, none⟩ (.bool (f j).isSome)) p b 5 g f C ∧ ((W5.setCell ⟨n8, j, none⟩ (.int .i64 ((f j).getD 0))).setCell ⟨n8 + 1, j, none⟩ (.bool (f j).isSome)).heap[n8]? = some (.cells (wasI f j') 34 (0, 0)) ∧ ((W5.setCell ⟨n8, j, none⟩ (.int .i64 ((f j).getD 0))).setCell ⟨n8 + 1, j, none⟩ (.bool (f j).isSome)).heap[n8 + 1]? = some (.cells (wasB f j') 35 (0, 0)) := ⟨j + 1, hlt5, by simp, t5, hA6, hB6⟩
            clear hA4 hB4 hA5 hA6 hB6 t4 t5
            generalize (f j).getD 0 = y1 at *
            generalize (f j).isSome = y2 at *
            go_wp2
            exact ⟨hrel, by simp only [wdInt]; omega⟩
          · have hj5 : j = 5 := by omega
            subst hj5
            have hb4 := t4.below
            rw [← hb4.cell (p := ⟨bb, _, none⟩) hbw] at q0 q1
            have hn9 : n8 + 1 < wr.heap.size := (Array.getElem?_eq_some_iff.1 hB4).1
            have hC2 : C ≤ 100000 := by omega
            have i1 : (0 : Int) ≤ (k : Int) := by omega
            clear t3 hA hB
            have e5 : ((5 : Nat) : Int) = 5 := rfl
            rw [e5]
            clear e5
            go_upto_region 15 with fail
            go_step
            go_step
            iterate 6 (first | go_upon | go_back | go_step)
            go_cut [11, 12, 13] from 35 to 133 (fun s11 _ _ wx => ∃ (who : Int) (g' : Int) (f' : Int → Option Int) (C' : Nat), s11 = .int .i64 who ∧ C' ≤ k + 1 ∧ 3 ≤ g' ∧ g' ≤ 2147483647 ∧ Tk w wx p b 5 g' f' C' ∧ (∀ y, y ≠ who → f' y = f y) ∧ wx.heap[n8]? = some (.cells (wasI f 5) 34 (0, 0)) ∧ wx.heap[n8 + 1]? = some (.cells (wasB f 5) 35 (0, 0)))
            case first =>
              have fin : ∀ W' (who : Int), Acted w wr W' p b f C (fun y => y = who) → ∃ (who' : Int) (g' : Int) (f' : Int → Option Int) (C' : Nat), Value.int .i64 who = .int .i64 who' ∧ C' ≤ k + 1 ∧ 3 ≤ g' ∧ g' ≤ 2147483647 ∧ Tk w W' p b 5 g' f' C' ∧ (∀ y, y ≠ who' → f' y = f y) ∧ W'.heap[n8]? = some (.cells (wasI f 5) 34 (0, 0)) ∧ W'.heap[n8 + 1]? = some (.cells (wasB f 5) 35 (0, 0)) := fun W' who ⟨g', f', C', r1, r2, r3, r4, r5, r6⟩ =>
                ⟨who, g', f', C', rfl, by omega, r2, r3, r4, r5, (r6.block n8 (by omega) h8p h8b).trans hA4, (r6.block (n8 + 1) hn9 h9p h9b).trans hB4⟩
              by_cases k0 : kk = 0
              · subst k0
                go_wp2_with (go_at_call 9; refine (enter_a t4 hC2 ss hss hg0 hg1).mono ?_)
                intro e W5
                try simp only [and_imp]
                rintro ⟨a, c, rfl⟩ hact
                have hfin := fin W5 ss hact
                go_wp2
                go_meet
                exact hfin
              by_cases k1 : kk = 1
              · subst k1
                go_wp2_with (go_at_call 12; refine (leave_a t4 ss hss hg0 hg1).mono ?_)
                intro e W5
                try simp only [and_imp]
                rintro ⟨a, rfl⟩ hact
                have hfin := fin W5 ss hact
                go_wp2
                go_meet
                exact hfin
              by_cases k2 : kk = 2
              · subst k2
                go_wp2_with (go_at_call 14; refine (refresh_a t4 hC2 ss hss hg0 hg1).mono ?_)
                intro e W5
                rintro ⟨a, c, f', C', rfl, hac, r1, r4, r5, r6⟩
                have hfin := fin W5 ss ⟨g, f', C', r1, hg0, hg1, r4, r5, r6⟩
                by_cases hc0 : c = 0
                · subst hc0
                  obtain rfl := hac rfl
                  go_wp2_with (go_at_call 10; refine (global_walk r4.1).mono ?_)
                  intro e W6
                  try simp only [and_imp]
                  rintro rfl rfl
                  go_wp2
                  go_meet
                  exact hfin
                · go_wp2
                  go_meet
                  exact hfin
              by_cases k3 : kk = 3
              · subst k3
                go_wp2_with (go_at_call 8; refine (adv_a t4 hC2 hg0 hg1).mono ?_)
                intro e W5
                try simp only [and_imp]
                rintro ⟨a, c, rfl⟩ hact
                obtain ⟨g', f', C', r1, r2, r3, r4, r5, r6⟩ := hact
                have hfin := fin W5 (-1) ⟨g', f', C', r1, r2, r3, r4, fun y hy => r5 y id, r6⟩
                go_wp2
                go_meet
                exact hfin
              have hfin := fin wr (-1) ⟨g, f, C, by omega, hg0, hg1, t4, fun y hy => rfl, .refl _ _ _⟩
              go_wp2
              go_meet
              exact hfin
            case rest =>
              obtain ⟨who, g', f', C', rfl, hC', hg0', hg1', t6, hsame, hA6, hB6⟩ := hcut
              clear t4 hA4 hB4 q0 q1
              go_wp2
              go_loopw [14, 15, 16] (fun i _ _ W => ∃ j : Nat, j ≤ 5 ∧ i = .int .i64 j ∧ wc = W)
                (fun i _ _ _ => 5 - (wdInt i).toNat)
              case atStart => exact ⟨0, by omega, rfl, rfl⟩
              case round =>
                obtain ⟨j, hj, rfl, rfl⟩ := hrel
                by_cases hlt5 : j < 5
                · have hltJ : (j : Int) < 5 := by omega
                  have i2 : (0 : Int) ≤ (j : Int) := by omega
                  have c8 := (cells_at hA6 j).trans (wasI_get f j hlt5)
                  have c9 := (cells_at hB6 j).trans (wasB_get f j hlt5)
                  have hwj : WFi (j : Int) := wfi (by omega) (by omega)
                  have hin := in_walk t6.1 (j : Int) hwj
                  have hfin : ∃ j' : Nat, j' ≤ 5 ∧ Value.int .i64 ((j : Int) + 1) = .int .i64 j' ∧ True := ⟨j + 1, hlt5, by simp, trivial⟩
                  by_cases hjw : (j : Int) = who
                  · subst hjw
                    generalize (f' j).getD 0 = y1 at hin
                    generalize (f' j).isSome = y2 at hin
                    go_wp2_with (go_at_call 13; refine hin.mono ?_)
                    intro e W6
                    try simp only [and_imp]
                    rintro rfl rfl
                    go_wp2
                    go_roundw
                    case rel => exact hfin
                    case measure => simp only [wdInt]; omega
                  · rw [hsame _ hjw] at hin
                    generalize (f j).getD 0 = y1 at hin c8
                    generalize (f j).isSome = y2 at hin c9
                    go_wp2_with (go_at_call 13; refine hin.mono ?_)
                    intro e W6
                    try simp only [and_imp]
                    rintro rfl rfl
                    go_wp2
                    go_roundw
                    case rel => exact hfin
                    case measure => simp only [wdInt]; omega
                · have hltJ : ¬ (j : Int) < 5 := by omega
                  go_wp2
                  go_roundw
                  case rel => exact ⟨k + 1, by omega, by simp, g', f', C', hC', hg0', hg1', t6⟩
                  case measure => simp only [wdInt]; omega
      · have hltI : ¬ (k : Int) < (acts.length : Int) := by omega
        go_wp2_with (go_at_call 10; refine (global_k t2).mono ?_)
        intro e w3
        try simp only [and_imp]
        rintro rfl t3
        go_wp2
        go_ret
        exact ⟨by simp, t3.below⟩
  · have hl' : 100 < (acts.length : Int) := by omega
    go_wp2_with (go_at_call 6; refine (awake_walk w1).mono ?_)
    rintro e w2 ⟨rfl, hb2⟩
    go_wp2
    go_ret
    exact ⟨rfl, hb1.trans (hb2.mono hb1.size)⟩
end Go.Proofs
namespace Go.Proofs.Ytlchgobakkodbaa
open Go.AL
theorem apart_law (xs0 : List AVal) (h : FitsL [.slice (.agg [.int .i64, .int .i64]) 2 16, .int .i64] xs0) : ACall Try.prog 4 xs0 Sto.empty fun r _ => r = .bool true := by
  simp only [FitsL] at h
  obtain ⟨a, r, rfl, h1, a', r', rfl, h2, rfl⟩ := h
  obtain ⟨l, rfl, hl⟩ := fits_acts6 h1
  obtain ⟨m, rfl, hm1, hm2⟩ := h2
  have key : PCall Try.prog 4 [.slice (av6 l) 2 .ro, .int .i64 m] (.bool true) := .ofBelow fun γ w vs hr => by
    obtain ⟨u, v, rfl, q2, q3⟩ := repL2 hr
    cases q3
    exact (apart_walk w u l _ (rep_acts q2) hl).mono fun e w' ⟨e1, e2⟩ => ⟨_, e1, .bool _ _, e2⟩
  exact (key Sto.empty).mono fun r τ h => h.1
end Go.Proofs.Ytlchgobakkodbaa
