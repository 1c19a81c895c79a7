/-
  Seat 07 (disk): the disk and the reference's disk side by side; what a script's row holds, for the kit.
-/
import Derived.Test.YtekcekddahkajaaDO
namespace Go.AL
set_option linter.unusedSimpArgs false
set_option linter.unusedVariables false
structure Act7 where
  k : Int
  n : Int
  bs : List (List UInt8)
def Act7.a (x : Act7) : AVal := .agg [.int .i64 x.k, .int .i64 x.n, .slice (bws x.bs) 1 .ro]
def av7 (l : List Act7) : List AVal := l.map Act7.a
theorem fits_act7 {a : AVal} (h : Fits (.agg [.int .i64, .int .i64, .slice (.slice (.int .u8) 1 1) 1 24]) a) : ∃ x : Act7, a = x.a := by
  obtain ⟨xs, rfl, h⟩ := h
  simp only [FitsL] at h
  obtain ⟨a, r, rfl, h1, a', r', rfl, h2, a'', r'', rfl, h3, rfl⟩ := h
  obtain ⟨k, rfl, _, _⟩ := h1
  obtain ⟨n, rfl, _, _⟩ := h2
  obtain ⟨ls, rfl, _, _⟩ := fits_bws h3
  exact ⟨⟨k, n, ls⟩, rfl⟩
theorem fits_acts7 {b : Nat} {a : AVal} (h : Fits (.slice (.agg [.int .i64, .int .i64, .slice (.slice (.int .u8) 1 1) 1 24]) 3 b) a) : ∃ ks : List Act7, a = .slice (av7 ks) 3 .ro := by
  obtain ⟨es, rfl, h1, h2⟩ := h
  obtain ⟨ls, rfl, _⟩ := map_of (f := Act7.a) (P := fun _ => True) fun e he => by
    obtain ⟨x, rfl⟩ := fits_act7 (h2 e he)
    exact ⟨x, rfl, trivial⟩
  exact ⟨ls, rfl⟩
theorem flat_av7 : ∀ (l : List Act7), flat (av7 l) = l.flatMap fun x => [.int .i64 x.k, .int .i64 x.n, .slice (bws x.bs) 1 .ro]
  | [] => rfl
  | x :: l => by
    have := flat_av7 l
    simp only [av7, flat, List.map_cons, List.flatMap_cons] at this ⊢
    rw [this]; rfl
theorem flat_av7_get : ∀ (l : List Act7) (i : Nat) (h : i < l.length), (flat (av7 l))[i * 3]? = some (.int .i64 l[i].k) ∧ (flat (av7 l))[i * 3 + 1]? = some (.int .i64 l[i].n) ∧ (flat (av7 l))[i * 3 + 2]? = some (.slice (bws l[i].bs) 1 .ro)
  | [], i, h => by simp at h
  | x :: l, 0, h => by rw [flat_av7]; exact ⟨rfl, rfl, rfl⟩
  | x :: l, i + 1, h => by
    have ih := flat_av7_get l i (by simpa using h)
    rw [flat_av7] at ih ⊢
    have n0 : (i + 1) * 3 = i * 3 + 1 + 1 + 1 := by omega
    have n1 : (i + 1) * 3 + 1 = i * 3 + 1 + 1 + 1 + 1 := by omega
    have n2 : (i + 1) * 3 + 2 = i * 3 + 2 + 1 + 1 + 1 := by omega
    rw [n2, n1, n0]
    simp only [List.flatMap_cons, List.cons_append, List.nil_append, List.getElem?_cons_succ]
    exact ih
theorem flat_bws : ∀ l : List (List UInt8), flat (bws l) = bws l
  | [] => rfl
  | a :: l => congrArg (bwsV a :: ·) (flat_bws l)
end Go.AL
namespace Go.Proofs.Ytekcekddahkajaa
open Go.AL
set_option linter.unusedSimpArgs false
set_option linter.unusedVariables false
theorem flat_bw : ∀ l : List UInt8, flat (bw l) = bw l
  | [] => rfl
  | a :: l => congrArg (ofByte a :: ·) (flat_bw l)
theorem repL_bw_inv {γ : Gh} {w : World} {b : Bool} : ∀ (l : List UInt8) (vs : List Value), RepL γ w b (bw l) vs → vs = bvs l
  | [], vs, h => by cases h; rfl
  | p :: l, vs, h => by
    cases h with
    | cons h1 h => cases h1; rw [repL_bw_inv l _ h]; rfl
/-- Bytes that came in, as the kit sees them. -/
theorem rep_slB {γ : Gh} {w : World} {b : Bool} {l : List UInt8} {v : Value} {t : Tag} (h : Rep γ w b (.slice (bw l) 1 t) v) : SlB (fun b => b < w.heap.size) w v l := by
  generalize he : bw l = es at h
  cases h with
  | @sliceRow _ _ _ _ b off cap vs h1 h2 h3 h4 h5 h6 h7 =>
    subst he
    rw [flat_bw] at h1
    have e := repL_bw_inv l vs h1
    subst e
    refine .inr ⟨b, off, cap, by rw [bw_length], by simpa [bw_length] using h5, h6, fun hl => ?_, fun j x hj => (h3 j x hj).2⟩
    cases l with
    | nil => exact (hl rfl).elim
    | cons a l => exact World.block_lt_of_cell? _ _ (h3 0 _ rfl).2
  | sliceNil => exact .inl ⟨(by cases l with | nil => rfl | cons => cases he), _, rfl⟩
theorem rep_slBs {γ : Gh} {w : World} {b : Bool} {ls : List (List UInt8)} {v : Value} {t : Tag} (h : Rep γ w b (.slice (bws ls) 1 t) v) : SlBs (fun b => b < w.heap.size) w v ls := by
  generalize he : bws ls = es at h
  cases h with
  | @sliceRow _ _ _ _ b off cap vs h1 h2 h3 h4 h5 h6 h7 =>
    subst he
    rw [flat_bws] at h1
    refine .inr ⟨b, off, cap, by rw [bws_length], fun i hi => ?_⟩
    obtain ⟨u, hu, hr⟩ := h1.get (i := i) (a := bwsV ls[i]) (by simp [bws, hi])
    have hc := (h3 i u hu).2
    exact ⟨World.block_lt_of_cell? _ _ hc, u, hc, rep_slB hr⟩
  | sliceNil => exact .inl ⟨(by cases ls with | nil => rfl | cons => cases he), _, rfl⟩
/-- A script's row, for the kit. -/
def ActsP (w : World) (v : Value) (l : List Act7) : Prop :=
  (l = [] ∧ ∃ a, v = .slice a 0 0) ∨
  ∃ b off cap, v = .slice (some ⟨b, off, none⟩) l.length cap ∧ ∀ i (h : i < l.length), b < w.heap.size ∧ w.cell? ⟨b, off + i * 3, none⟩ = some (.int .i64 l[i].k) ∧ w.cell? ⟨b, off + i * 3 + 1, none⟩ = some (.int .i64 l[i].n) ∧
    ∃ u, w.cell? ⟨b, off + i * 3 + 2, none⟩ = some u ∧ SlBs (fun b => b < w.heap.size) w u l[i].bs
theorem rep_acts {γ : Gh} {w : World} {b : Bool} {l : List Act7} {v : Value} {t : Tag} (h : Rep γ w b (.slice (av7 l) 3 t) v) : ActsP w v l := by
  generalize he : av7 l = es at h
  cases h with
  | @sliceRow _ _ _ _ b off cap vs h1 h2 h3 h4 h5 h6 h7 =>
    subst he
    refine .inr ⟨b, off, cap, by simp [av7], fun i hi => ?_⟩
    obtain ⟨g0, g1, g2⟩ := flat_av7_get l i hi
    obtain ⟨u0, hu0, hr0⟩ := h1.get g0
    obtain ⟨u1, hu1, hr1⟩ := h1.get g1
    obtain ⟨u2, hu2, hr2⟩ := h1.get g2
    cases hr0; cases hr1
    have hc0 := (h3 _ _ hu0).2
    have hc1 := (h3 _ _ hu1).2
    have hc2 := (h3 _ _ hu2).2
    exact ⟨World.block_lt_of_cell? _ _ hc0, hc0, hc1, u2, hc2, rep_slBs hr2⟩
  | sliceNil => exact .inl ⟨(by cases l with | nil => rfl | cons => cases he), _, rfl⟩
end Go.Proofs.Ytekcekddahkajaa
namespace Go.Proofs
open Go.RowKit Ytekcekddahkajaa
set_option linter.unusedSimpArgs false
set_option linter.unusedVariables false
/-- Both disks: made since w0, apart, below B, and not in the blocks X. -/
def Both (w0 W : World) (B : Nat) (X : Nat → Prop) (p q : Nat) (r s : Int) (l sf rs : List UInt8) : Prop :=
  ∃ g g1 g2, DiskP W p r s l g ∧ RefP W q r sf rs g1 g2 ∧ w0.heap.size ≤ p ∧ p < q ∧ (∀ k, g = some k → k < B ∧ ¬ RF q g1 g2 k) ∧ (∀ k, RF q g1 g2 k → k < B) ∧ B ≤ W.heap.size ∧ Below w0.heap.size w0 W ∧ ∀ k, X k → k < W.heap.size ∧ k ≠ p ∧ g ≠ some k ∧ ¬ RF q g1 g2 k
theorem Both.lt {w0 W : World} {B p q : Nat} {X : Nat → Prop} {r s : Int} {l sf rs : List UInt8} (h : Both w0 W B X p q r s l sf rs) : w0.heap.size ≤ p ∧ p < q ∧ q < B ∧ B ≤ W.heap.size := by
  obtain ⟨g, g1, g2, h1, h2, h3, h4, h5, h6, h7, h8, h9⟩ := h
  exact ⟨h3, h4, h6 q (.inl rfl), h7⟩
theorem Both.below {w0 W : World} {B p q : Nat} {X : Nat → Prop} {r s : Int} {l sf rs : List UInt8} (h : Both w0 W B X p q r s l sf rs) : Below w0.heap.size w0 W := by
  obtain ⟨g, g1, g2, h1, h2, h3, h4, h5, h6, h7, h8, h9⟩ := h; exact h8
/-- Blocks from B on may change. -/
theorem Both.grow {w0 W W' : World} {B p q : Nat} {X : Nat → Prop} {r s : Int} {l sf rs : List UInt8} (h : Both w0 W B X p q r s l sf rs) (hb : Below B W W') : Both w0 W' B X p q r s l sf rs := by
  obtain ⟨g, g1, g2, h1, h2, h3, h4, h5, h6, h7, h8, h9⟩ := h
  have hqB := h6 q (.inl rfl)
  refine ⟨g, g1, g2, ?_, h2.keep fun k hk => hb.block k (h6 k hk), h3, h4, h5, h6, Nat.le_trans h7 hb.size, h8.trans (hb.mono (by omega)), fun k hk => ⟨Nat.lt_of_lt_of_le (h9 k hk).1 hb.size, (h9 k hk).2⟩⟩
  obtain ⟨v, a1, a2, a3⟩ := h1
  exact ⟨v, by rw [hb.block p (by omega)]; exact a1, ownsRow_grow a2 fun k hk => hb.block k (h5 k (a3.symm.trans hk)).1, a3⟩
theorem Both.up {w0 W : World} {B p q : Nat} {X : Nat → Prop} {r s : Int} {l sf rs : List UInt8} (h : Both w0 W B X p q r s l sf rs) : Both w0 W W.heap.size X p q r s l sf rs := by
  obtain ⟨g, g1, g2, h1, h2, h3, h4, h5, h6, h7, h8, h9⟩ := h
  exact ⟨g, g1, g2, h1, h2, h3, h4, fun k hk => ⟨by have := (h5 k hk).1; omega, (h5 k hk).2⟩, fun k hk => by have := h6 k hk; omega, Nat.le_refl _, h8, h9⟩
/-- Blocks from B on are not theirs. -/
theorem Both.out {w0 W : World} {B p q : Nat} {X Y : Nat → Prop} {r s : Int} {l sf rs : List UInt8} (h : Both w0 W B X p q r s l sf rs) (hY : ∀ k, Y k → X k ∨ B ≤ k ∧ k < W.heap.size) : Both w0 W B Y p q r s l sf rs := by
  obtain ⟨g, g1, g2, h1, h2, h3, h4, h5, h6, h7, h8, h9⟩ := h
  refine ⟨g, g1, g2, h1, h2, h3, h4, h5, h6, h7, h8, fun k hk => ?_⟩
  rcases hY k hk with h | h
  · exact h9 k h
  · have hqB := h6 q (.inl rfl)
    exact ⟨h.2, by omega, fun e => by have := (h5 k e).1; omega, fun e => by have := h6 k e; omega⟩
/-- A method of the disk. -/
theorem Both.d {w0 W : World} {B p q : Nat} {X : Nat → Prop} {r s r' s' : Int} {l l' sf rs : List UInt8} {f : FuncId} {args : Array Value} {R : Ending → Prop} {P : Program} (h : Both w0 W B X p q r s l sf rs) (hr : r' = r)
    (hc : ∀ g, DiskP W p r s l g → Calls P f args W fun e W' => R e ∧ DGo W p g W' r' s' l') : Calls P f args W fun e W' => R e ∧ Both w0 W' W'.heap.size X p q r' s' l' sf rs ∧ W'.heap[q]? = W.heap[q]? ∧ ∀ k, X k → W'.heap[k]? = W.heap[k]? := by
  subst hr
  obtain ⟨g, g1, g2, h1, h2, h3, h4, h5, h6, h7, h8, h9⟩ := h
  have hqW := h2.lt.1
  refine (hc g h1).mono fun e W' ⟨e1, g', a1, a2, a3⟩ => ⟨e1, ⟨g', g1, g2, a1, h2.keep fun k hk => ?_, h3, h4, fun k hk => ?_, fun k hk => ?_, Nat.le_refl _, h8.trans (a2.below h3 h8.size fun k hk => by have := h1.lt.2 k hk; omega), fun k hk => ⟨Nat.lt_of_lt_of_le (h9 k hk).1 a2.size, (h9 k hk).2.1, fun e => ?_, (h9 k hk).2.2.2⟩⟩, a2.block q hqW (by omega) fun e => (h5 q e.symm).2 (.inl rfl), fun k hk => a2.block k (h9 k hk).1 (h9 k hk).2.1 fun e => (h9 k hk).2.2.1 e.symm⟩
  · have h9 := h2.lt.2 k hk
    exact a2.block k h9.2 (by omega) fun e => (h5 k e.symm).2 hk
  · refine ⟨(a1.lt.2 k hk).2, fun hf => ?_⟩
    rcases a3 k hk with h9 | h9
    · exact (h5 k h9).2 hf
    · have := h6 k hf; omega
  · have := h6 k hk; have := a2.size; omega
  · rcases a3 k e with h10 | h10
    · exact (h9 k hk).2.2.1 h10
    · have := (h9 k hk).1; omega
/-- A method of the reference's. -/
theorem Both.r {w0 W : World} {B p q : Nat} {X : Nat → Prop} {r s : Int} {l sf rs sf' rs' : List UInt8} {f : FuncId} {args : Array Value} {R : Ending → Prop} {P : Program} (h : Both w0 W B X p q r s l sf rs)
    (hc : ∀ g1 g2, RefP W q r sf rs g1 g2 → Calls P f args W fun e W' => R e ∧ RGo W q g1 g2 W' r sf' rs') : Calls P f args W fun e W' => R e ∧ Both w0 W' W'.heap.size X p q r s l sf' rs' ∧ ∀ k, X k → W'.heap[k]? = W.heap[k]? := by
  obtain ⟨g, g1, g2, h1, h2, h3, h4, h5, h6, h7, h8, h9⟩ := h
  refine (hc g1 g2 h2).mono fun e W' ⟨e1, g1', g2', a1, a2, a3⟩ => ⟨e1, ⟨g, g1', g2', ?_, a1, h3, h4, fun k hk => ⟨?_, fun hf => ?_⟩, fun k hk => (a1.lt.2 k hk).2, Nat.le_refl _, h8.trans ⟨a2.os, a2.tape, a2.output, a2.size, fun k hk => a2.block k (by have := h8.size; omega) fun hf => ?_⟩, fun k hk => ⟨Nat.lt_of_lt_of_le (h9 k hk).1 a2.size, (h9 k hk).2.1, (h9 k hk).2.2.1, fun hf => ?_⟩⟩, fun k hk => a2.block k (h9 k hk).1 (h9 k hk).2.2.2⟩
  · obtain ⟨v, b1, b2, b3⟩ := h1
    have hpF : ¬ RF q g1 g2 p := fun hf => by have := (h2.lt.2 p hf).1; omega
    exact ⟨v, by rw [a2.block p (Array.getElem?_eq_some_iff.1 b1).1 hpF]; exact b1, ownsRow_grow b2 fun k hk => a2.block k (b2.lt k hk).2 (h5 k (b3.symm.trans hk)).2, b3⟩
  · have := (h5 k hk).1; have := a2.size; omega
  · rcases a3 k hf with h9 | h9
    · exact (h5 k hk).2 h9
    · have := (h5 k hk).1; omega
  · have := (h2.lt.2 k hf).1; omega
  · rcases a3 k hf with h10 | h10
    · exact (h9 k hk).2.2.2 h10
    · have := (h9 k hk).1; omega
theorem both_app {w0 W : World} {B p q : Nat} {X : Nat → Prop} {r s : Int} {l sf rs : List UInt8} {v : Value} {ls : List (List UInt8)} (h : Both w0 W B X p q r s l sf rs) (hv : SlBs (fun b => b < w0.heap.size) W v ls) (hl : (l.length : Int) ≤ r) (hr : r ≤ 1073741824) (hls : ls.length ≤ 1000000000) :
    Calls Try.prog 9 #[.pointer (some ⟨p, 0, none⟩), v] W fun e W' => ((((l.length + tot ls : Nat) : Int) ≤ r ∧ e = .returned (.int .i64 0) ∧ Both w0 W' W'.heap.size X p q r s (l ++ ls.flatten) sf rs) ∨ (r < ((l.length + tot ls : Nat) : Int) ∧ e = .returned (.int .i64 50) ∧ Both w0 W' W'.heap.size X p q r s l sf rs)) ∧ ∀ k, X k → W'.heap[k]? = W.heap[k]? := by
  have hlt := h.lt
  have hcall : ∀ g, DiskP W p r s l g → _ := fun g hg => app_walk (N := fun b => b < w0.heap.size) hg hv (fun b hb => ⟨by omega, by omega, fun e => by have := hg.lt.2 b e.symm; omega⟩) hl hr hls
  by_cases hf : ((l.length + tot ls : Nat) : Int) ≤ r
  · refine (h.d (R := fun e => e = .returned (.int .i64 0)) (s' := s) (l' := l ++ ls.flatten) rfl fun g hg => (hcall g hg).mono ?_).mono ?_
    · rintro e W' (⟨_, h2, h3⟩ | ⟨h1, _⟩)
      · exact ⟨h2, h3⟩
      · omega
    · rintro e W' ⟨h1, h2, _, h4⟩
      exact ⟨.inl ⟨hf, h1, h2⟩, h4⟩
  · refine (h.d (R := fun e => e = .returned (.int .i64 50)) (s' := s) (l' := l) rfl fun g hg => (hcall g hg).mono ?_).mono ?_
    · rintro e W' (⟨h1, _⟩ | ⟨h1, h2, h3⟩)
      · omega
      · exact ⟨h2, g, hg.grow h3, Chg.of_below h3, fun k hk => .inl hk⟩
    · rintro e W' ⟨h1, h2, _, h4⟩
      exact ⟨.inr ⟨by omega, h1, h2⟩, h4⟩
theorem both_appR {w0 W : World} {B p q : Nat} {X : Nat → Prop} {r s : Int} {l sf rs : List UInt8} {v : Value} {ls : List (List UInt8)} (h : Both w0 W B X p q r s l sf rs) (hv : SlBs (fun b => b < w0.heap.size) W v ls) (hl : ((sf.length + rs.length : Nat) : Int) ≤ r) (hr : r ≤ 1073741824) (hls : ls.length ≤ 1000000000) :
    Calls Try.prog 17 #[.pointer (some ⟨q, 0, none⟩), v] W fun e W' => ((((sf.length + rs.length + tot ls : Nat) : Int) ≤ r ∧ e = .returned (.bool true) ∧ Both w0 W' W'.heap.size X p q r s l sf (rs ++ ls.flatten)) ∨ (r < ((sf.length + rs.length + tot ls : Nat) : Int) ∧ e = .returned (.bool false) ∧ Both w0 W' W'.heap.size X p q r s l sf rs)) ∧ ∀ k, X k → W'.heap[k]? = W.heap[k]? := by
  have hlt := h.lt
  have hcall : ∀ g1 g2, RefP W q r sf rs g1 g2 → _ := fun g1 g2 hg => appR_walk (N := fun b => b < w0.heap.size) hg hv (fun b hb => ⟨by omega, fun e => by have := (hg.lt.2 b e).1; omega⟩) hl hr hls
  by_cases hf : ((sf.length + rs.length + tot ls : Nat) : Int) ≤ r
  · refine (h.r (R := fun e => e = .returned (.bool true)) (sf' := sf) (rs' := rs ++ ls.flatten) fun g1 g2 hg => (hcall g1 g2 hg).mono ?_).mono ?_
    · rintro e W' (⟨_, h2, h3⟩ | ⟨h1, _⟩)
      · exact ⟨h2, h3⟩
      · omega
    · rintro e W' ⟨h1, h2, h4⟩
      exact ⟨.inl ⟨hf, h1, h2⟩, h4⟩
  · refine (h.r (R := fun e => e = .returned (.bool false)) (sf' := sf) (rs' := rs) fun g1 g2 hg => (hcall g1 g2 hg).mono ?_).mono ?_
    · rintro e W' (⟨h1, _⟩ | ⟨h1, h2, h3⟩)
      · omega
      · exact ⟨h2, g1, g2, hg.grow h3, ChgF.of_below h3, fun k hk => .inl hk⟩
    · rintro e W' ⟨h1, h2, h4⟩
      exact ⟨.inr ⟨by omega, h1, h2⟩, h4⟩
/-- What the reference calls safe. -/
theorem Both.safe {w0 W : World} {B p q : Nat} {X : Nat → Prop} {r s : Int} {l sf rs : List UInt8} (h : Both w0 W B X p q r s l sf rs) : ∃ a c, W.cell? ⟨q, 1, none⟩ = some (.slice a sf.length c) := by
  obtain ⟨g, g1, g2, h1, ⟨v1, v2, a1, a2, a3, a4, a5, a6⟩, _⟩ := h
  obtain ⟨a, c, rfl, _, _⟩ := ownsRow_len a2
  have c1 := cells_at a1 1
  simp only [List.getElem?_toArray, List.getElem?_cons_zero, List.getElem?_cons_succ] at c1
  exact ⟨a, c, c1⟩
theorem Both.cells {w0 W : World} {B p q : Nat} {X : Nat → Prop} {r s : Int} {l sf rs : List UInt8} (h : Both w0 W B X p q r s l sf rs) : ∃ v1 v2, W.cell? ⟨q, 1, none⟩ = some v1 ∧ W.cell? ⟨q, 2, none⟩ = some v2 ∧ W.frozen? ⟨q, 1, none⟩ = false ∧ W.frozen? ⟨q, 2, none⟩ = false := by
  obtain ⟨g, g1, g2, h1, ⟨v1, v2, a1, a2, a3, a4, a5, a6⟩, _⟩ := h
  have c1 := cells_at a1 1
  have c2 := cells_at a1 2
  simp only [List.getElem?_toArray, List.getElem?_cons_zero, List.getElem?_cons_succ] at c1 c2
  exact ⟨v1, v2, c1, c2, frz_at a1 1, frz_at a1 2⟩
/-- The reference's row gets a new one; nothing else is left. -/
theorem Both.cutR {w0 W : World} {B p q n c : Nat} {X : Nat → Prop} {r s : Int} {l sf rs m : List UInt8} {a : Option Addr} (h : Both w0 W B X p q r s l sf rs) (hu : W.ownsRow B 5 1 (.slice a m.length c) m.length (bvs m)) (hn : n ≤ m.length) (hX : ∀ k, X k → k < B) :
    Both w0 ((W.setCell ⟨q, 1, none⟩ (.slice a n c)).setCell ⟨q, 2, none⟩ (.slice none 0 0)) W.heap.size X p q r s l (m.take n) [] := by
  obtain ⟨g, g1, g2, h1, ⟨v1, v2, a1, a2, a3, a4, a5, a6⟩, h3, h4, h5, h6, h7, h8, h9⟩ := h
  have hqB := h6 q (.inl rfl)
  have hl : (m.take n).length = n := by rw [List.length_take]; omega
  have hh1 := heap_setCell_same W q 1 _ _ (.slice a n c) a1
  have hut := ownsRow_take hu rfl hn
  have hob : ∀ k, (Value.slice a n c).ownBlock = some k → B ≤ k ∧ k < W.heap.size := fun k hk => hut.lt k hk
  have hoth : ∀ k, k ≠ q → ((W.setCell ⟨q, 1, none⟩ (.slice a n c)).setCell ⟨q, 2, none⟩ (.slice none 0 0)).heap[k]? = W.heap[k]? := fun k hk => by
    rw [heap_setCell_other _ _ _ _ hk, heap_setCell_other _ _ _ _ hk]
  have hRF : ∀ k, RF q (Value.slice a n c).ownBlock none k → k = q ∨ (B ≤ k ∧ k < W.heap.size) := fun k hk => by
    rcases hk with hk | hk | hk
    · exact .inl hk
    · exact .inr (hob k hk)
    · cases hk
  have hsz : ((W.setCell ⟨q, 1, none⟩ (.slice a n c)).setCell ⟨q, 2, none⟩ (.slice none 0 0)).heap.size = W.heap.size := by simp
  refine ⟨g, (Value.slice a n c).ownBlock, none, ?_, ⟨.slice a n c, .slice none 0 0, ?_, ?_, rfl, World.ownsRow_nil _ _ _ _, rfl, fun k _ h => by cases h⟩, h3, h4, fun k hk => ⟨by have := (h5 k hk).1; omega, fun hf => ?_⟩, fun k hk => ?_, by omega, h8.trans ⟨rfl, rfl, rfl, by omega, fun k hk => hoth k (by omega)⟩, fun k hk => ⟨by rw [hsz]; exact (h9 k hk).1, (h9 k hk).2.1, (h9 k hk).2.2.1, fun hf => ?_⟩⟩
  · obtain ⟨v, b1, b2, b3⟩ := h1
    exact ⟨v, by rw [hoth p (by omega)]; exact b1, ownsRow_grow b2 fun k hk => hoth k fun e => (h5 k (b3.symm.trans hk)).2 (.inl e), b3⟩
  · rw [heap_setCell_same _ _ _ _ _ _ hh1]; rfl
  · rw [hl]
    have h10 : W.ownsRow (q + 1) 5 1 (.slice a n c) n (bvs (m.take n)) := by
      refine ⟨hut.1, ?_⟩
      rcases hut.2 with hn | ⟨g, cap, cur, e1, e2, e3⟩
      · exact .inl hn
      · exact .inr ⟨g, cap, cur, e1, by omega, e3⟩
    exact ownsRow_grow h10 fun k hk => hoth k (by have := hob k hk; omega)
  · rcases hRF k hf with h | h
    · exact (h5 k hk).2 (.inl h)
    · have := (h5 k hk).1; omega
  · rcases hRF k hk with h | h <;> omega
  · rcases hRF k hf with h | h
    · exact (h9 k hk).2.2.2 (.inl h)
    · have := hX k hk; omega
theorem flush_b {w0 W : World} {B p q : Nat} {X : Nat → Prop} {r s : Int} {l sf rs : List UInt8} (h : Both w0 W B X p q r s l sf rs) :
    Calls Try.prog 10 #[.pointer (some ⟨p, 0, none⟩)] W fun e W' => e = .returned (.int .i64 (l.length : Int)) ∧ Both w0 W' W'.heap.size X p q r l.length l sf rs ∧ W'.heap[q]? = W.heap[q]? ∧ ∀ k, X k → W'.heap[k]? = W.heap[k]? :=
  h.d (R := fun e => e = .returned (.int .i64 (l.length : Int))) rfl fun g hg => flush_walk hg
theorem crash_b {w0 W : World} {B p q : Nat} {X : Nat → Prop} {r s : Int} {l sf rs : List UInt8} (h : Both w0 W B X p q r s l sf rs) (k : Int) (a0 : 0 ≤ s) (a1 : s ≤ l.length) (a2 : l.length ≤ 1073741824) :
    Calls Try.prog 11 #[.pointer (some ⟨p, 0, none⟩), .int .i64 k] W fun e W' => e = .returned (.int .i64 (stayN k s l.length)) ∧ Both w0 W' W'.heap.size X p q r (stayN k s l.length) (l.take (stayN k s l.length).toNat) sf rs ∧ W'.heap[q]? = W.heap[q]? ∧ ∀ k, X k → W'.heap[k]? = W.heap[k]? :=
  h.d (R := fun e => e = .returned (.int .i64 (stayN k s l.length))) rfl fun g hg => crash_walk hg k a0 a1 a2
theorem cut_b {w0 W : World} {B p q : Nat} {X : Nat → Prop} {r s : Int} {l sf rs : List UInt8} (h : Both w0 W B X p q r s l sf rs) (n : Int) (a0 : 0 ≤ n) (a1 : n ≤ l.length) :
    Calls Try.prog 16 #[.pointer (some ⟨p, 0, none⟩), .int .i64 n] W fun e W' => e = .returned (.int .i64 0) ∧ Both w0 W' W'.heap.size X p q r n (l.take n.toNat) sf rs ∧ W'.heap[q]? = W.heap[q]? ∧ ∀ k, X k → W'.heap[k]? = W.heap[k]? :=
  h.d (R := fun e => e = .returned (.int .i64 0)) rfl fun g hg => cut_walk hg n a0 a1
theorem cutE_b {w0 W : World} {B p q : Nat} {X : Nat → Prop} {r s : Int} {l sf rs : List UInt8} (h : Both w0 W B X p q r s l sf rs) (n : Int) (a0 : n < 0 ∨ (l.length : Int) < n) :
    Calls Try.prog 16 #[.pointer (some ⟨p, 0, none⟩), .int .i64 n] W fun e W' => e = .returned (.int .i64 2) ∧ W' = W := by
  obtain ⟨g, g1, g2, h1, _⟩ := h
  exact cut_err h1 n a0
theorem crashR_b {w0 W : World} {B p q : Nat} {X : Nat → Prop} {r s : Int} {l sf rs : List UInt8} (h : Both w0 W B X p q r s l sf rs) (k : Int) (hl : sf.length + rs.length ≤ 1073741824) :
    Calls Try.prog 18 #[.pointer (some ⟨q, 0, none⟩), .int .i64 k] W fun e W' => (∃ u, e = .returned u) ∧ Both w0 W' W'.heap.size X p q r s l (sf ++ rs.take (max k 0).toNat) [] ∧ ∀ k, X k → W'.heap[k]? = W.heap[k]? :=
  h.r (R := fun e => ∃ u, e = .returned u) fun g1 g2 hg => crashR_walk hg k hl
theorem all_b {w0 W : World} {B p q : Nat} {X : Nat → Prop} {r s : Int} {l sf rs : List UInt8} (h : Both w0 W B X p q r s l sf rs) (hl : sf.length + rs.length ≤ 1073741824) :
    Calls Try.prog 19 #[.pointer (some ⟨q, 0, none⟩)] W fun e W' => ∃ u, e = .returned u ∧ W'.ownsRow W.heap.size 5 1 u (sf ++ rs).length (bvs (sf ++ rs)) ∧ Below W.heap.size W W' := by
  obtain ⟨g, g1, g2, h1, h2, _⟩ := h
  exact all_walk h2 hl
theorem len_b {w0 W : World} {B p q : Nat} {X : Nat → Prop} {r s : Int} {l sf rs : List UInt8} (h : Both w0 W B X p q r s l sf rs) :
    Calls Try.prog 13 #[.pointer (some ⟨p, 0, none⟩)] W fun e W' => e = .returned (.int .i64 (l.length : Int)) ∧ W' = W := by
  obtain ⟨g, g1, g2, h1, _⟩ := h
  exact len_walk h1
theorem safe_b {w0 W : World} {B p q : Nat} {X : Nat → Prop} {r s : Int} {l sf rs : List UInt8} (h : Both w0 W B X p q r s l sf rs) :
    Calls Try.prog 15 #[.pointer (some ⟨p, 0, none⟩)] W fun e W' => e = .returned (.int .i64 s) ∧ W' = W := by
  obtain ⟨g, g1, g2, h1, _⟩ := h
  exact safe_walk h1
theorem left_b {w0 W : World} {B p q : Nat} {X : Nat → Prop} {r s : Int} {l sf rs : List UInt8} (h : Both w0 W B X p q r s l sf rs) (hl : (l.length : Int) ≤ r) (hr : r ≤ 1073741824) :
    Calls Try.prog 14 #[.pointer (some ⟨p, 0, none⟩)] W fun e W' => e = .returned (.int .i64 (r - l.length)) ∧ Below W.heap.size W W' := by
  obtain ⟨g, g1, g2, h1, _⟩ := h
  exact left_walk h1 hl hr
theorem bytes_b {w0 W : World} {B p q : Nat} {X : Nat → Prop} {r s : Int} {l sf rs : List UInt8} (h : Both w0 W B X p q r s l sf rs) (hl : l.length ≤ 1073741824) :
    Calls Try.prog 12 #[.pointer (some ⟨p, 0, none⟩)] W fun e W' => ∃ u, e = .returned u ∧ W'.ownsRow W.heap.size 5 1 u l.length (bvs l) ∧ Below W.heap.size W W' := by
  obtain ⟨g, g1, g2, h1, _⟩ := h
  exact bytes_walk h1 hl
end Go.Proofs
