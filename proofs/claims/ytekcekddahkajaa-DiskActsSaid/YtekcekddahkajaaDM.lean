/-
  Seat 07 (disk): the methods over a disk of the law's own; the document's example.
-/
import Derived.Test.YtekcekddahkajaaDL
import Derived.Lib.SlBytesConst
namespace Go.Proofs
open Go.RowKit Ytekcekddahkajaa
set_option linter.unusedSimpArgs false
set_option linter.unusedVariables false
set_option maxHeartbeats 4000000
set_option maxRecDepth 1000000
/-- A disk that was made since the world w0. -/
def Dk (w0 W : World) (p : Nat) (r s : Int) (l : List UInt8) : Prop := ∃ g, DiskP W p r s l g ∧ w0.heap.size ≤ p ∧ Below w0.heap.size w0 W
theorem DiskP.lt {w : World} {p : Nat} {r s : Int} {l : List UInt8} {g : Option Nat} (h : DiskP w p r s l g) : p < w.heap.size ∧ ∀ k, g = some k → p < k ∧ k < w.heap.size := by
  obtain ⟨v, h1, h2, h3⟩ := h
  exact ⟨(Array.getElem?_eq_some_iff.1 h1).1, fun k hk => by have := h2.lt k (h3.trans hk); omega⟩
theorem Dk.go {w0 W W' : World} {p : Nat} {r s r' s' : Int} {l l' : List UInt8} {g : Option Nat} (h : DiskP W p r s l g) (hp : w0.heap.size ≤ p) (hb : Below w0.heap.size w0 W) (hg : DGo W p g W' r' s' l') : Dk w0 W' p r' s' l' := by
  obtain ⟨g', h1, h2, h3⟩ := hg
  have hl := h.lt
  exact ⟨g', h1, hp, hb.trans (h2.below hp (by omega) fun k hk => by have := hl.2 k hk; omega)⟩
theorem Dk.grow {w0 W W' : World} {p : Nat} {r s : Int} {l : List UInt8} (h : Dk w0 W p r s l) (hb : Below W.heap.size W W') : Dk w0 W' p r s l := by
  obtain ⟨g, h1, h2, h3⟩ := h
  exact ⟨g, h1.grow hb, h2, h3.trans (hb.mono h3.size)⟩
theorem Dk.below {w0 W : World} {p : Nat} {r s : Int} {l : List UInt8} (h : Dk w0 W p r s l) : Below w0.heap.size w0 W := by obtain ⟨g, h1, h2, h3⟩ := h; exact h3
theorem Dk.lt {w0 W : World} {p : Nat} {r s : Int} {l : List UInt8} (h : Dk w0 W p r s l) : p < W.heap.size ∧ w0.heap.size ≤ p := by obtain ⟨g, h1, h2, h3⟩ := h; exact ⟨h1.lt.1, h2⟩
theorem len_d {w0 W : World} {p : Nat} {r s : Int} {l : List UInt8} (h : Dk w0 W p r s l) :
    Calls Try.prog 13 #[.pointer (some ⟨p, 0, none⟩)] W fun e w' => e = .returned (.int .i64 (l.length : Int)) ∧ Dk w0 w' p r s l := by
  have h0 := h
  obtain ⟨g, h1, h2, h3⟩ := h
  exact (len_walk h1).mono fun e w' ⟨e1, e2⟩ => ⟨e1, e2 ▸ h0⟩
theorem safe_d {w0 W : World} {p : Nat} {r s : Int} {l : List UInt8} (h : Dk w0 W p r s l) :
    Calls Try.prog 15 #[.pointer (some ⟨p, 0, none⟩)] W fun e w' => e = .returned (.int .i64 s) ∧ Dk w0 w' p r s l := by
  have h0 := h
  obtain ⟨g, h1, h2, h3⟩ := h
  exact (safe_walk h1).mono fun e w' ⟨e1, e2⟩ => ⟨e1, e2 ▸ h0⟩
theorem left_d {w0 W : World} {p : Nat} {r s : Int} {l : List UInt8} (h : Dk w0 W p r s l) (hl : (l.length : Int) ≤ r) (hr : r ≤ 1073741824) :
    Calls Try.prog 14 #[.pointer (some ⟨p, 0, none⟩)] W fun e w' => e = .returned (.int .i64 (r - l.length)) ∧ Dk w0 w' p r s l := by
  have h0 := h
  obtain ⟨g, h1, h2, h3⟩ := h
  exact (left_walk h1 hl hr).mono fun e w' ⟨e1, e2⟩ => ⟨e1, h0.grow e2⟩
theorem flush_d {w0 W : World} {p : Nat} {r s : Int} {l : List UInt8} (h : Dk w0 W p r s l) :
    Calls Try.prog 10 #[.pointer (some ⟨p, 0, none⟩)] W fun e w' => e = .returned (.int .i64 (l.length : Int)) ∧ Dk w0 w' p r l.length l := by
  obtain ⟨g, h1, h2, h3⟩ := h
  exact (flush_walk h1).mono fun e w' ⟨e1, e2⟩ => ⟨e1, Dk.go h1 h2 h3 e2⟩
theorem crash_d {w0 W : World} {p : Nat} {r s : Int} {l : List UInt8} (h : Dk w0 W p r s l) (k : Int) (a0 : 0 ≤ s) (a1 : s ≤ l.length) (a2 : l.length ≤ 1073741824) :
    Calls Try.prog 11 #[.pointer (some ⟨p, 0, none⟩), .int .i64 k] W fun e w' => e = .returned (.int .i64 (stayN k s l.length)) ∧ Dk w0 w' p r (stayN k s l.length) (l.take (stayN k s l.length).toNat) := by
  obtain ⟨g, h1, h2, h3⟩ := h
  exact (crash_walk h1 k a0 a1 a2).mono fun e w' ⟨e1, e2⟩ => ⟨e1, Dk.go h1 h2 h3 e2⟩
theorem cut_d {w0 W : World} {p : Nat} {r s : Int} {l : List UInt8} (h : Dk w0 W p r s l) (n : Int) (a0 : 0 ≤ n) (a1 : n ≤ l.length) :
    Calls Try.prog 16 #[.pointer (some ⟨p, 0, none⟩), .int .i64 n] W fun e w' => e = .returned (.int .i64 0) ∧ Dk w0 w' p r n (l.take n.toNat) := by
  obtain ⟨g, h1, h2, h3⟩ := h
  exact (cut_walk h1 n a0 a1).mono fun e w' ⟨e1, e2⟩ => ⟨e1, Dk.go h1 h2 h3 e2⟩
theorem cutE_d {w0 W : World} {p : Nat} {r s : Int} {l : List UInt8} (h : Dk w0 W p r s l) (n : Int) (a0 : n < 0 ∨ (l.length : Int) < n) :
    Calls Try.prog 16 #[.pointer (some ⟨p, 0, none⟩), .int .i64 n] W fun e w' => e = .returned (.int .i64 2) ∧ Dk w0 w' p r s l := by
  have h0 := h
  obtain ⟨g, h1, h2, h3⟩ := h
  exact (cut_err h1 n a0).mono fun e w' ⟨e1, e2⟩ => ⟨e1, e2 ▸ h0⟩
theorem bytes_d {w0 W : World} {p : Nat} {r s : Int} {l : List UInt8} (h : Dk w0 W p r s l) (hl : l.length ≤ 1073741824) :
    Calls Try.prog 12 #[.pointer (some ⟨p, 0, none⟩)] W fun e w' => ∃ u, e = .returned u ∧ w'.ownsRow W.heap.size 5 1 u l.length (bvs l) ∧ Dk w0 w' p r s l ∧ Below W.heap.size W w' := by
  have h0 := h
  obtain ⟨g, h1, h2, h3⟩ := h
  exact (bytes_walk h1 hl).mono fun e w' ⟨u, e1, e2, e3⟩ => ⟨u, e1, e2, h0.grow e3, e3⟩
theorem SlB.weak {N M : Nat → Prop} {w : World} {v : Value} {l : List UInt8} (h : SlB N w v l) (hN : ∀ b, N b → b < w.heap.size → M b) : SlB M w v l := by
  rcases h with h | ⟨b, off, cap, h0, h1, h2, h3, h4⟩
  · exact .inl h
  · refine .inr ⟨b, off, cap, h0, h1, h2, fun hl => hN b (h3 hl) ?_, h4⟩
    cases l with
    | nil => exact (hl rfl).elim
    | cons x l => exact World.block_lt_of_cell? _ _ (h4 0 _ rfl)
theorem SlBs.weak {N M : Nat → Prop} {w : World} {v : Value} {ls : List (List UInt8)} (h : SlBs N w v ls) (hN : ∀ b, N b → b < w.heap.size → M b) : SlBs M w v ls := by
  rcases h with h | ⟨b, off, cap, h0, h1⟩
  · exact .inl h
  · refine .inr ⟨b, off, cap, h0, fun i hi => ?_⟩
    obtain ⟨hb, u, h2, h3⟩ := h1 i hi
    exact ⟨hN b hb (World.block_lt_of_cell? _ _ h2), u, h2, h3.weak hN⟩
/-- What is appended lies in blocks of the caller's, or in newer ones. -/
theorem app_d {w0 W W1 : World} {p : Nat} {r s : Int} {l : List UInt8} {v : Value} {ls : List (List UInt8)} (h : Dk w0 W p r s l) (hb : Below W.heap.size W W1) (hv : SlBs (fun b => b < w0.heap.size ∨ W.heap.size ≤ b) W1 v ls)
    (hl : (l.length : Int) ≤ r) (hr : r ≤ 1073741824) (hls : ls.length ≤ 1000000000) :
    Calls Try.prog 9 #[.pointer (some ⟨p, 0, none⟩), v] W1 fun e w' =>
      (((l.length + tot ls : Nat) : Int) ≤ r ∧ e = .returned (.int .i64 0) ∧ Dk w0 w' p r s (l ++ ls.flatten)) ∨
      (r < ((l.length + tot ls : Nat) : Int) ∧ e = .returned (.int .i64 50) ∧ Dk w0 w' p r s l) := by
  have h0 := h.grow hb
  obtain ⟨g, h1, h2, h3⟩ := h
  have hlt := h1.lt
  have h1' := h1.grow hb
  refine (app_walk (N := fun b => b < W1.heap.size ∧ b ≠ p ∧ some b ≠ g) h1' (hv.weak fun b hb1 hb2 => ?_) (fun b hb => hb) hl hr hls).mono ?_
  · refine ⟨hb2, ?_, fun e => ?_⟩
    · rcases hb1 with h | h <;> omega
    · have := hlt.2 b e.symm
      rcases hb1 with h | h <;> omega
  · rintro e w' (⟨a1, a2, a3⟩ | ⟨a1, a2, a3⟩)
    · exact .inl ⟨a1, a2, Dk.go h1' h2 (h3.trans (hb.mono h3.size)) a3⟩
    · exact .inr ⟨a1, a2, h0.grow a3⟩
theorem slBs_one {N : Nat → Prop} {w : World} {q c : Nat} {u : Value} {l : List UInt8} (hq : w.cell? ⟨q, 0, none⟩ = some u) (hu : SlB N w u l) (hN : N q) : SlBs N w (.slice (some ⟨q, 0, none⟩) 1 c) [l] :=
  .inr ⟨q, 0, c, rfl, fun i hi => by
    have : i = 0 := by simp at hi; exact hi
    subst this
    exact ⟨hN, u, hq, hu⟩⟩
/-- One row of bytes that fits. -/
theorem appOne_d {w0 W W1 : World} {p q c : Nat} {r s : Int} {l m : List UInt8} {u : Value} (h : Dk w0 W p r s l) (hb : Below W.heap.size W W1) (hq : W1.cell? ⟨q, 0, none⟩ = some u) (hqn : W.heap.size ≤ q)
    (hu : SlB (fun b => b < w0.heap.size ∨ W.heap.size ≤ b) W1 u m) (hl : ((l.length + m.length : Nat) : Int) ≤ r) (hr : r ≤ 1073741824) :
    Calls Try.prog 9 #[.pointer (some ⟨p, 0, none⟩), .slice (some ⟨q, 0, none⟩) 1 c] W1 fun e w' => e = .returned (.int .i64 0) ∧ Dk w0 w' p r s (l ++ m) := by
  have ht : tot [m] = m.length := by simp [tot]
  refine (app_d h hb (slBs_one hq hu (.inr hqn)) (by omega) hr (by simp)).mono ?_
  rw [ht]
  rintro e w' (⟨a1, a2, a3⟩ | ⟨a1, a2, a3⟩)
  · exact ⟨a2, by simpa using a3⟩
  · omega
theorem slB_cells {N : Nat → Prop} {w : World} {q c : Nat} {l : List UInt8} {T : TypeId} {fz : Nat × Nat} (h : w.heap[q]? = some (.cells (bvs l).toArray T fz)) (hN : N q) (hc : l.length ≤ c) (hm : c ≤ maxLen) : SlB N w (.slice (some ⟨q, 0, none⟩) l.length c) l :=
  .inr ⟨q, 0, c, rfl, hc, hm, fun _ => hN, fun j x hj => by
    simp only [World.cell?, h, Nat.zero_add]
    rw [List.getElem?_toArray]
    exact hj⟩
theorem ownsRow_slB {w : World} {base : Nat} {v : Value} {l : List UInt8} (hr : w.ownsRow base 5 1 v l.length (bvs l)) : SlB (fun b => base ≤ b) w v l := by
  rcases hr.2 with ⟨h3, h4⟩ | ⟨q, c, cur, rfl, hq, _, h1, h2, _⟩
  · rw [h3, List.eq_nil_of_length_eq_zero h4]
    exact .inl ⟨rfl, none, rfl⟩
  · have := hr.cells (g := q) rfl
    refine .inr ⟨q, 0, c, rfl, h1, h2, fun _ => hq, fun j x hj => ?_⟩
    have h5 := this j x hj
    have hplain : (⟨q, 0, none⟩ : Addr).add j = ⟨q, 0 + j, none⟩ := by unfold Addr.add; split <;> simp_all
    rw [hplain] at h5
    exact h5
theorem slB_conv {N : Nat → Prop} {w : World} {v : Value} {l : List UInt8} (h : SlB N w v l) : (convert 28 9 v).run Try.prog w = .ok (.string ⟨l.toArray⟩) w := by
  have key : ∀ ad c, (∀ j (hj : j < l.length), w.cell? ((ad : Addr).add j) = some (.int .u8 (l[j].toNat : Int))) → (convert 28 9 (.slice (some ad) l.length c)).run Try.prog w = .ok (.string ⟨l.toArray⟩) w := fun ad c hc =>
    run_convert_bytes_back w 28 9 5 ad c l Try.underlying28 Try.underlying5 Try.underlying9 hc
  rcases h with ⟨rfl, a, rfl⟩ | ⟨b, off, cap, rfl, h1, h2, h3, h4⟩
  · cases a with
    | none => exact run_convert_bytes_nil w 28 5 Try.underlying28 Try.underlying5 0 0 9 Try.underlying9
    | some ad => exact key ad 0 (fun j hj => by simp at hj)
  · refine key _ _ fun j hj => ?_
    have := h4 j (.int .u8 (l[j].toNat : Int)) (by simp [bvs, hj])
    have hplain : (⟨b, off, none⟩ : Addr).add j = ⟨b, off + j, none⟩ := by unfold Addr.add; split <;> simp_all
    rw [hplain]; exact this
theorem awake_walk (w : World) : Calls Try.prog 7 #[] w fun e w' => e = .returned (.bool true) ∧ Below w.heap.size w w' := by
  go_enter Try.func7, Try.ntmps7
  go_wp2_with (go_at_call 8; refine (new_walk 9 (by decide) (by decide)).mono ?_)
  rintro e w1 ⟨rfl, hd, hb⟩
  have d1 : Dk w w1 w.heap.size 9 0 [] := ⟨none, hd, Nat.le_refl _, hb⟩
  have hp := d1.lt
  clear hd hb
  generalize w.heap.size = p at d1 hp ⊢
  have hcv := Go.Lib.run_convert_bytes_const (P := Try.prog) w1 28 5 #[.int .u8 97, .int .u8 98] 2 2 Try.underlying28 Try.underlying5
  simp only [List.size_toArray, List.length_cons, List.length_nil, Nat.reduceAdd] at hcv
  have key := fun W1 q c u => appOne_d (W1 := W1) (q := q) (c := c) (u := u) (m := [97, 98]) d1
  go_wp2_with (go_at_call 9; refine (key _ _ _ (.slice (some ⟨w1.heap.size, 0, none⟩) 2 2) ?b1 ?q1 ?n1 ?s1 ?x1 ?y1).mono ?_)
  case b1 => exact ((Below.refl _ _).alloc (Nat.le_refl _) _).alloc (by simp) _
  case q1 => exact World.cell?_alloc_at _ _ _ _ (by simp)
  case n1 => simp
  case s1 =>
    refine slB_cells (l := [97, 98]) (T := 5) (fz := (2, 3)) ?_ (.inr (Nat.le_refl _)) (by decide) (by decide)
    rw [heap_alloc_old _ _ (by simp)]
    exact heap_alloc_new _ _
  case x1 => decide
  case y1 => decide
  rintro e w2 ⟨rfl, d2⟩
  clear hcv d1 key
  go_wp2_with (go_at_call 10; refine (flush_d d2).mono ?_)
  rintro e w3 ⟨rfl, d3⟩
  clear d2
  have hcv := Go.Lib.run_convert_bytes_const (P := Try.prog) w3 28 5 #[.int .u8 99, .int .u8 100] 2 2 Try.underlying28 Try.underlying5
  simp only [List.size_toArray, List.length_cons, List.length_nil, Nat.reduceAdd] at hcv
  have key := fun W1 q c u => appOne_d (W1 := W1) (q := q) (c := c) (u := u) (m := [99, 100]) d3
  go_wp2_with (go_at_call 9; refine (key _ _ _ (.slice (some ⟨w3.heap.size, 0, none⟩) 2 2) ?b2 ?q2 ?n2 ?s2 ?x2 ?y2).mono ?_)
  case b2 => exact ((Below.refl _ _).alloc (Nat.le_refl _) _).alloc (by simp) _
  case q2 => exact World.cell?_alloc_at _ _ _ _ (by simp)
  case n2 => simp
  case s2 =>
    refine slB_cells (l := [99, 100]) (T := 5) (fz := (2, 3)) ?_ (.inr (Nat.le_refl _)) (by decide) (by decide)
    rw [heap_alloc_old _ _ (by simp)]
    exact heap_alloc_new _ _
  case x2 => decide
  case y2 => decide
  rintro e w4 ⟨rfl, d4⟩
  clear hcv d3 key
  go_wp2_with (go_at_call 11; refine (crash_d d4 1 ?z1 ?z2 ?z3).mono ?_)
  case z1 => decide
  case z2 => decide
  case z3 => decide
  rintro e w5 ⟨rfl, d5⟩
  have e3 : stayN 1 (([] ++ [97, 98] : List UInt8).length : Int) (([] ++ [97, 98] ++ [99, 100] : List UInt8).length : Int) = 3 := by decide
  rw [e3] at d5 ⊢
  have e4 : ([] ++ [97, 98] ++ [99, 100] : List UInt8).take (3 : Int).toNat = [97, 98, 99] := rfl
  rw [e4] at d5
  clear d4
  go_wp2_with (go_at_call 12; refine (bytes_d d5 ?z4).mono ?_)
  case z4 => decide
  rintro e w6 ⟨u, rfl, hu, d6, hb6⟩
  have hcv := slB_conv (ownsRow_slB hu)
  go_wp2
  go_ret
  exact ⟨rfl, d6.below⟩
end Go.Proofs
