/-
  Seat 07 (disk): a disk as the kit sees it; its methods, walked with the kit.
-/
import Derived.Test.YtekcekddahkajaaA17
import Derived.Test.YtekcekddahkajaaHr
import Derived.Test.YtekcekddahkajaaH
import Derived.WalkKit
import Derived.WalkSmall
import Derived.Laws.OwnMore
import Derived.Laws.AppendOwnNone
import Derived.Maps.AppendAt
import Derived.BigCall
import Derived.BigGuard
import Derived.BigRegion
namespace Go.Proofs
open Go.RowKit Ytekcekddahkajaa
set_option linter.unusedSimpArgs false
set_option linter.unusedVariables false
theorem byteInfo : (Try.prog.info? 5).map (fun i => (i.zero, i.size, i.bytes)) = some (some (.int .u8 0), 1, 1) := by kernel_rfl
def bvs (l : List UInt8) : List Value := l.map fun b => .int .u8 (b.toNat : Int)
theorem bvs_length (l : List UInt8) : (bvs l).length = l.length := by simp [bvs]
theorem bvs_append (l m : List UInt8) : bvs (l ++ m) = bvs l ++ bvs m := by simp [bvs]
theorem bvs_one (l : List UInt8) : ∀ v ∈ bvs l, v.oneCell' = true := fun v hv => by
  obtain ⟨x, _, rfl⟩ := List.mem_map.1 hv; rfl
/-- Bytes that are read, in blocks of which N says something. -/
def SlB (N : Nat → Prop) (w : World) (v : Value) (l : List UInt8) : Prop :=
  (l = [] ∧ ∃ a, v = .slice a 0 0) ∨
  ∃ b off cap, v = .slice (some ⟨b, off, none⟩) l.length cap ∧ l.length ≤ cap ∧ cap ≤ maxLen ∧ (l ≠ [] → N b) ∧ ∀ j x, (bvs l)[j]? = some x → w.cell? ⟨b, off + j, none⟩ = some x
def SlBs (N : Nat → Prop) (w : World) (v : Value) (ls : List (List UInt8)) : Prop :=
  (ls = [] ∧ ∃ a, v = .slice a 0 0) ∨
  ∃ b off cap, v = .slice (some ⟨b, off, none⟩) ls.length cap ∧ ∀ i (h : i < ls.length), N b ∧ ∃ u, w.cell? ⟨b, off + i, none⟩ = some u ∧ SlB N w u ls[i]
structure Chg (p : Nat) (g : Option Nat) (w w' : World) : Prop where
  os : w'.os = w.os
  tape : w'.tape = w.tape
  output : w'.output = w.output
  size : w.heap.size ≤ w'.heap.size
  block : ∀ k, k < w.heap.size → k ≠ p → some k ≠ g → w'.heap[k]? = w.heap[k]?
def DiskP (w : World) (p : Nat) (r s : Int) (l : List UInt8) (g : Option Nat) : Prop :=
  ∃ v, w.heap[p]? = some (.cells #[.int .i64 r, .int .i64 s, v] 48 (0, 0)) ∧ w.ownsRow (p + 1) 5 1 v l.length (bvs l) ∧ v.ownBlock = g
/-- A disk has become another. -/
def DGo (w : World) (p : Nat) (g : Option Nat) (w' : World) (r s : Int) (l : List UInt8) : Prop :=
  ∃ g', DiskP w' p r s l g' ∧ Chg p g w w' ∧ ∀ k, g' = some k → g = some k ∨ w.heap.size ≤ k
theorem Chg.refl (p : Nat) (g : Option Nat) (w : World) : Chg p g w w := ⟨rfl, rfl, rfl, Nat.le_refl _, fun _ _ _ _ => rfl⟩
theorem Chg.trans {p : Nat} {g g' : Option Nat} {w w1 w2 : World} (h : Chg p g w w1) (k : Chg p g' w1 w2) (hg : ∀ k, g' = some k → g = some k ∨ w.heap.size ≤ k) : Chg p g w w2 :=
  ⟨k.os.trans h.os, k.tape.trans h.tape, k.output.trans h.output, Nat.le_trans h.size k.size, fun j hj hp hgj => by
    rw [k.block j (Nat.lt_of_lt_of_le hj h.size) hp (fun e => by rcases hg j e.symm with h1 | h1; exact hgj h1.symm; omega), h.block j hj hp hgj]⟩
theorem Chg.below {p B : Nat} {g : Option Nat} {w w' : World} (h : Chg p g w w') (hp : B ≤ p) (hb : B ≤ w.heap.size) (hg : ∀ k, g = some k → B ≤ k) : Below B w w' :=
  ⟨h.os, h.tape, h.output, h.size, fun k hk => h.block k (by omega) (by omega) (fun e => by have := hg k e.symm; omega)⟩
theorem Chg.of_below {p : Nat} {g : Option Nat} {w w' : World} (h : Below w.heap.size w w') : Chg p g w w' := ⟨h.os, h.tape, h.output, h.size, fun k hk _ _ => h.block k hk⟩
theorem DGo.trans {p : Nat} {g g' : Option Nat} {w w1 w2 : World} {r s : Int} {l : List UInt8} (h : Chg p g w w1) (hg : ∀ k, g' = some k → g = some k ∨ w.heap.size ≤ k) (k : DGo w1 p g' w2 r s l) : DGo w p g w2 r s l := by
  obtain ⟨g2, h1, h2, h3⟩ := k
  refine ⟨g2, h1, h.trans h2 hg, fun j hj => ?_⟩
  rcases h3 j hj with h4 | h4
  · exact hg j h4
  · exact .inr (Nat.le_trans h.size h4)
theorem SlB.chg {N : Nat → Prop} {w w' : World} {v : Value} {l : List UInt8} {p : Nat} {g : Option Nat} (h : SlB N w v l) (hc : Chg p g w w') (hN : ∀ b, N b → b ≠ p ∧ some b ≠ g) : SlB N w' v l := by
  rcases h with h | ⟨b, off, cap, h0, h1, h2, h3, h4⟩
  · exact .inl h
  · refine .inr ⟨b, off, cap, h0, h1, h2, h3, fun j x hj => ?_⟩
    have := h4 j x hj
    have hl : l ≠ [] := by rintro rfl; simp [bvs] at hj
    rw [World.cell?_of_block (a := ⟨b, off + j, none⟩) (hc.block b (World.block_lt_of_cell? _ _ this) (hN b (h3 hl)).1 (hN b (h3 hl)).2)]
    exact this
theorem SlBs.chg {N : Nat → Prop} {w w' : World} {v : Value} {ls : List (List UInt8)} {p : Nat} {g : Option Nat} (h : SlBs N w v ls) (hc : Chg p g w w') (hN : ∀ b, N b → b ≠ p ∧ some b ≠ g) : SlBs N w' v ls := by
  rcases h with h | ⟨b, off, cap, h0, h1⟩
  · exact .inl h
  · refine .inr ⟨b, off, cap, h0, fun i hi => ?_⟩
    obtain ⟨hb, u, h2, h3⟩ := h1 i hi
    refine ⟨hb, u, ?_, h3.chg hc hN⟩
    rw [World.cell?_of_block (a := ⟨b, off + i, none⟩) (hc.block b (World.block_lt_of_cell? _ _ h2) (hN b hb).1 (hN b hb).2)]
    exact h2
theorem cells_at {w : World} {b : Nat} {vs : Array Value} {T : TypeId} (h : w.heap[b]? = some (.cells vs T (0, 0))) (j : Nat) : w.cell? ⟨b, j, none⟩ = vs[j]? := by
  simp only [World.cell?, h]
  rfl
theorem frz_at {w : World} {b : Nat} {vs : Array Value} {T : TypeId} (h : w.heap[b]? = some (.cells vs T (0, 0))) (j : Nat) : w.frozen? ⟨b, j, none⟩ = false := by
  simp only [World.frozen?, h]
  simp
theorem ownsRow_len {w : World} {base e size n : Nat} {v : Value} {xs : List Value} (h : w.ownsRow base e size v n xs) : ∃ a c, v = .slice a n c ∧ n ≤ c ∧ c ≤ maxLen := by
  rcases h.2 with ⟨rfl, rfl⟩ | ⟨g, cap, cur, rfl, _, _, h1, h2, _⟩
  · exact ⟨_, _, rfl, Nat.le_refl _, by unfold maxLen; omega⟩
  · exact ⟨_, _, rfl, h1, h2⟩
theorem ownsRow_set {w : World} {base e size n : Nat} {v x : Value} {xs : List Value} {p o : Nat} (h : w.ownsRow base e size v n xs) (hp : p < base) : (w.setCell ⟨p, o, none⟩ x).ownsRow base e size v n xs := by
  refine ⟨h.1, ?_⟩
  rcases h.2 with hn | ⟨g, cap, cur, rfl, hb, hg, rest⟩
  · exact .inl hn
  · exact .inr ⟨g, cap, cur, rfl, hb, by rw [heap_setCell_other _ _ _ _ (show g ≠ p by omega)]; exact hg, rest⟩
theorem ownsRow_take {w : World} {base e n : Nat} {v : Value} {l : List UInt8} {a : Option Addr} {c : Nat} (h : w.ownsRow base e 1 v l.length (bvs l)) (hv : v = .slice a l.length c) (hn : n ≤ l.length) :
    w.ownsRow base e 1 (.slice a n c) n (bvs (l.take n)) := by
  subst hv
  refine ⟨by simp [bvs]; omega, ?_⟩
  rcases h.2 with ⟨h1, h2⟩ | ⟨g, cap, cur, h0, hb, hg, h1, h2, h3, h4⟩
  · have hc : a = none ∧ c = 0 := by simp only [Value.slice.injEq] at h1; exact ⟨h1.1, h1.2.2⟩
    obtain ⟨rfl, rfl⟩ := hc
    exact .inl ⟨by rw [show n = 0 by omega], by omega⟩
  · simp only [Value.slice.injEq, true_and] at h0
    obtain ⟨rfl, rfl⟩ := h0
    refine .inr ⟨g, c, cur, rfl, hb, hg, by omega, h2, h3, ?_⟩
    rw [Nat.mul_one] at h4 ⊢
    have : bvs (l.take n) = (bvs l).take n := by simp [bvs]
    rw [this, ← h4, List.take_take]
    congr 1
    omega
theorem chg_set {w : World} {p o : Nat} {g : Option Nat} (x : Value) : Chg p g w (w.setCell ⟨p, o, none⟩ x) :=
  ⟨rfl, rfl, rfl, by simp, fun k _ hp _ => heap_setCell_other _ _ _ _ hp⟩
theorem DiskP.open {w : World} {p : Nat} {r s : Int} {l : List UInt8} {g : Option Nat} (h : DiskP w p r s l g) : ∃ a c, w.heap[p]? = some (.cells #[.int .i64 r, .int .i64 s, .slice a l.length c] 48 (0, 0)) ∧
    w.ownsRow (p + 1) 5 1 (.slice a l.length c) l.length (bvs l) ∧ (Value.slice a l.length c).ownBlock = g ∧ l.length ≤ c ∧ c ≤ maxLen := by
  obtain ⟨v, h1, h2, h3⟩ := h
  obtain ⟨a, c, rfl, h4, h5⟩ := ownsRow_len h2
  exact ⟨a, c, h1, h2, h3, h4, h5⟩
set_option maxHeartbeats 4000000
set_option maxRecDepth 1000000
theorem len_walk {w : World} {p : Nat} {r s : Int} {l : List UInt8} {g : Option Nat} (h : DiskP w p r s l g) :
    Calls Try.prog 13 #[.pointer (some ⟨p, 0, none⟩)] w fun e w' => e = .returned (.int .i64 (l.length : Int)) ∧ w' = w := by
  obtain ⟨a, c, hh, hr, hg, _, _⟩ := h.open
  have c2 := cells_at hh 2
  simp only [List.getElem?_toArray, List.getElem?_cons_zero, List.getElem?_cons_succ] at c2
  go_enter Try.func13, Try.ntmps13
  go_wp2
  go_ret
  exact ⟨rfl, rfl⟩
theorem safe_walk {w : World} {p : Nat} {r s : Int} {l : List UInt8} {g : Option Nat} (h : DiskP w p r s l g) :
    Calls Try.prog 15 #[.pointer (some ⟨p, 0, none⟩)] w fun e w' => e = .returned (.int .i64 s) ∧ w' = w := by
  obtain ⟨a, c, hh, hr, hg, _, _⟩ := h.open
  have c2 := cells_at hh 1
  simp only [List.getElem?_toArray, List.getElem?_cons_zero, List.getElem?_cons_succ] at c2
  go_enter Try.func15, Try.ntmps15
  go_wp2
  go_ret
  exact ⟨rfl, rfl⟩
theorem flush_walk {w : World} {p : Nat} {r s : Int} {l : List UInt8} {g : Option Nat} (h : DiskP w p r s l g) :
    Calls Try.prog 10 #[.pointer (some ⟨p, 0, none⟩)] w fun e w' => e = .returned (.int .i64 (l.length : Int)) ∧ DGo w p g w' r l.length l := by
  obtain ⟨a, c, hh, hr, hg, _, _⟩ := h.open
  have c1 := cells_at hh 1
  have c2 := cells_at hh 2
  have f1 := frz_at hh 1
  simp only [List.getElem?_toArray, List.getElem?_cons_zero, List.getElem?_cons_succ] at c1 c2
  go_enter Try.func10, Try.ntmps10
  go_wp2
  go_ret
  refine ⟨rfl, g, ⟨_, ?_, ownsRow_set hr (by omega), hg⟩, chg_set _, fun k hk => .inl hk⟩
  rw [heap_setCell_same _ _ _ _ _ _ hh]
  rfl
theorem new_walk {w : World} (r : Int) (h0 : 0 ≤ r) (h1 : r ≤ 1073741824) :
    Calls Try.prog 8 #[.int .i64 r] w fun e w' => e = .returned (.tuple #[.pointer (some ⟨w.heap.size, 0, none⟩), .int .i64 0]) ∧ DiskP w' w.heap.size r 0 [] none ∧ Below w.heap.size w w' := by
  go_enter Try.func8, Try.ntmps8
  go_wp2
  go_ret2
  exact ⟨rfl, ⟨_, heap_alloc_new _ _, World.ownsRow_nil _ _ _ _, rfl⟩, (Below.refl _ w).alloc (Nat.le_refl _) _⟩
theorem new_err {w : World} (r : Int) (h : r < 0 ∨ 1073741824 < r) :
    Calls Try.prog 8 #[.int .i64 r] w fun e w' => e = .returned (.tuple #[.pointer none, .int .i64 2]) ∧ w' = w := by
  go_enter Try.func8, Try.ntmps8
  go_wp2
  all_goals go_ret2
  all_goals exact ⟨rfl, rfl⟩
theorem left_walk {w : World} {p : Nat} {r s : Int} {l : List UInt8} {g : Option Nat} (h : DiskP w p r s l g) (h0 : (l.length : Int) ≤ r) (h1 : r ≤ 1073741824) :
    Calls Try.prog 14 #[.pointer (some ⟨p, 0, none⟩)] w fun e w' => e = .returned (.int .i64 (r - l.length)) ∧ Below w.heap.size w w' := by
  obtain ⟨a, c, hh, hr, hg, _, _⟩ := h.open
  have c0 := cells_at hh 0
  have c2 := cells_at hh 2
  simp only [List.getElem?_toArray, List.getElem?_cons_zero, List.getElem?_cons_succ] at c0 c2
  go_enter Try.func14, Try.ntmps14
  go_wp2
  go_region
  go_wp2
  go_ret
  exact ⟨rfl, (Below.refl _ w).drew⟩
theorem DiskP.grow {w w' : World} {p : Nat} {r s : Int} {l : List UInt8} {g : Option Nat} (h : DiskP w p r s l g) (hb : Below w.heap.size w w') : DiskP w' p r s l g := by
  obtain ⟨v, h1, h2, h3⟩ := h
  refine ⟨v, by rw [hb.block p (Array.getElem?_eq_some_iff.1 h1).1]; exact h1, ⟨h2.1, ?_⟩, h3⟩
  rcases h2.2 with hn | ⟨q, cap, cur, rfl, hq, hg, rest⟩
  · exact .inl hn
  · exact .inr ⟨q, cap, cur, rfl, hq, by rw [hb.block q (Array.getElem?_eq_some_iff.1 hg).1]; exact hg, rest⟩
theorem SlB.grow {N : Nat → Prop} {w w' : World} {v : Value} {l : List UInt8} (h : SlB N w v l) (hb : Below w.heap.size w w') : SlB N w' v l := by
  rcases h with h | ⟨b, off, cap, h0, h1, h2, h3, h4⟩
  · exact .inl h
  · refine .inr ⟨b, off, cap, h0, h1, h2, h3, fun j x hj => ?_⟩
    have := h4 j x hj
    rw [hb.cell (p := ⟨b, off + j, none⟩) (World.block_lt_of_cell? _ _ this)]
    exact this
theorem SlBs.grow {N : Nat → Prop} {w w' : World} {v : Value} {ls : List (List UInt8)} (h : SlBs N w v ls) (hb : Below w.heap.size w w') : SlBs N w' v ls := by
  rcases h with h | ⟨b, off, cap, h0, h1⟩
  · exact .inl h
  · refine .inr ⟨b, off, cap, h0, fun i hi => ?_⟩
    obtain ⟨hb', u, h2, h3⟩ := h1 i hi
    refine ⟨hb', u, ?_, h3.grow hb⟩
    rw [hb.cell (p := ⟨b, off + i, none⟩) (World.block_lt_of_cell? _ _ h2)]
    exact h2
theorem SlB.len {N : Nat → Prop} {w : World} {v : Value} {l : List UInt8} (h : SlB N w v l) : ∃ a c, v = .slice a l.length c := by
  rcases h with ⟨rfl, a, rfl⟩ | ⟨b, off, cap, rfl, _⟩
  · exact ⟨_, _, rfl⟩
  · exact ⟨_, _, rfl⟩
theorem flatten_take {α : Type} {ls : List (List α)} {i : Nat} (h : i < ls.length) : (ls.take (i + 1)).flatten = (ls.take i).flatten ++ ls[i] := by
  rw [List.take_succ_eq_append_getElem h, List.flatten_append]
  simp only [List.flatten_cons, List.flatten_nil, List.append_nil]
theorem flatten_le {α : Type} (ls : List (List α)) (i : Nat) : (ls.take i).flatten.length ≤ ls.flatten.length := by
  have : ls.flatten = (ls.take i).flatten ++ (ls.drop i).flatten := by rw [← List.flatten_append, List.take_append_drop]
  rw [this]; simp
def flk (ls : List (List UInt8)) (k : Nat) : Nat := (ls.take k).flatten.length
def tot (ls : List (List UInt8)) : Nat := ls.flatten.length
theorem flk_zero (ls : List (List UInt8)) : flk ls 0 = 0 := by simp [flk]
theorem flk_succ {ls : List (List UInt8)} {k : Nat} (h : k < ls.length) : flk ls (k + 1) = flk ls k + ls[k].length := by unfold flk; rw [flatten_take h, List.length_append]
theorem flk_le (ls : List (List UInt8)) (k : Nat) : flk ls k ≤ tot ls := flatten_le ls k
theorem flk_all {ls : List (List UInt8)} {k : Nat} (h : ls.length ≤ k) : flk ls k = tot ls := by unfold flk tot; rw [List.take_of_length_le h]
/-- Append: whether all fits. -/
theorem app_walk {w : World} {p : Nat} {r s : Int} {l : List UInt8} {g : Option Nat} {N : Nat → Prop} {v : Value} {ls : List (List UInt8)} (h : DiskP w p r s l g) (hv : SlBs N w v ls) (hN : ∀ b, N b → b < w.heap.size ∧ b ≠ p ∧ some b ≠ g)
    (h0 : (l.length : Int) ≤ r) (h1 : r ≤ 1073741824) (hls : ls.length ≤ 1000000000) :
    Calls Try.prog 9 #[.pointer (some ⟨p, 0, none⟩), v] w fun e w' =>
      (((l.length + tot ls : Nat) : Int) ≤ r ∧ e = .returned (.int .i64 0) ∧ DGo w p g w' r s (l ++ ls.flatten)) ∨
      (r < ((l.length + tot ls : Nat) : Int) ∧ e = .returned (.int .i64 50) ∧ Below w.heap.size w w') := by
  obtain ⟨i0, hi, hz0, hz1, hz2⟩ := info_parts byteInfo
  have hgl := h.open
  go_enter Try.func9, Try.ntmps9
  go_wp2_with (go_at_call 14; refine (left_walk h h0 h1).mono ?_)
  rintro e w1 ⟨rfl, b1⟩
  have h' := h.grow b1
  have hpw : p < w.heap.size := by obtain ⟨v, hh, _⟩ := h; exact (Array.getElem?_eq_some_iff.1 hh).1
  rcases hv with ⟨rfl, a, rfl⟩ | ⟨b, off, cap, rfl, hc⟩
  · go_wp2
    refine wp_loop_rounds 1 ?_
    rw [rounds_succ]
    go_wp2
    refine wp_loop_rounds 1 ?_
    rw [rounds_succ]
    go_wp2
    go_ret
    exact .inl ⟨by simpa [tot] using h0, rfl, g, by simpa using h', Chg.of_below b1, fun k hk => .inl hk⟩
  · have hc1 : ∀ (i : Nat) (h : i < ls.length), ∃ a c, w1.cell? ⟨b, off + i, none⟩ = some (.slice a ls[i].length c) := fun i hi => by
      obtain ⟨hb, u, hu, hsl⟩ := hc i hi
      obtain ⟨a, c, rfl⟩ := hsl.len
      exact ⟨a, c, by rw [b1.cell (p := ⟨b, off + i, none⟩) (World.block_lt_of_cell? _ _ hu)]; exact hu⟩
    go_wp2
    go_loopw [5, 14] (fun lf i wr => ∃ k : Nat, k ≤ ls.length ∧ i = .int .i64 k ∧ lf = .int .i64 (r - ((l.length : Int) + (flk ls k : Int))) ∧ (l.length : Int) + (flk ls k : Int) ≤ r ∧ w1 = wr)
      (fun _ i _ => ls.length - (intOf i).toNat)
    case atStart => exact ⟨0, Nat.zero_le _, rfl, by rw [flk_zero]; simp, by rw [flk_zero]; simpa using h0, rfl⟩
    case round =>
      obtain ⟨k, hk, rfl, rfl, hfit, rfl⟩ := hrel
      by_cases hlt : k < ls.length
      · obtain ⟨a, c, hu⟩ := hc1 k hlt
        have hft := flk_succ hlt
        have hle := flk_le ls (k + 1)
        clear hc1
        by_cases hbig : (ls[k].length : Int) ≤ r - ((l.length : Int) + (flk ls k : Int))
        · have hbig' : ¬ (r - ((l.length : Int) + (flk ls k : Int)) < (ls[k].length : Int)) := by omega
          go_wp2
          exact ⟨⟨k + 1, by omega, by simp, by rw [hft]; simp; omega, by omega, trivial⟩, by simp only [intOf]; omega⟩
        · have hbig' : r - ((l.length : Int) + (flk ls k : Int)) < (ls[k].length : Int) := by omega
          go_wp2
          go_ret
          exact .inr ⟨by omega, rfl, b1⟩
      · rw [flk_all (by omega)] at hfit
        clear hc1
        go_wp2
        go_loopw [29] (fun i wr => ∃ k : Nat, k ≤ ls.length ∧ i = .int .i64 k ∧ DGo w p g wr r s (l ++ (ls.take k).flatten))
          (fun i _ => ls.length - (intOf i).toNat)
        case atStart => exact ⟨0, Nat.zero_le _, rfl, g, by simpa using h', Chg.of_below b1, fun k hk => .inl hk⟩
        case round =>
          obtain ⟨j, hj, rfl, hgo0⟩ := hrel
          by_cases hlt : j < ls.length
          · obtain ⟨g', hd, hch, hg'⟩ := hgo0
            obtain ⟨hb, u, hu, hsl⟩ := hc j hlt
            obtain ⟨a', c', hh, hr, hgo, hcl, hcm⟩ := hd.open
            have c2 := cells_at hh 2
            have f2 := frz_at hh 2
            simp only [List.getElem?_toArray, List.getElem?_cons_zero, List.getElem?_cons_succ] at c2
            have hfl : (ls.take (j + 1)).flatten = (ls.take j).flatten ++ ls[j] := flatten_take hlt
            have hN0 : ∀ b, N b → b ≠ p ∧ some b ≠ g := fun b hb => (hN b hb).2
            have hu' : wr.cell? ⟨b, off + j, none⟩ = some u := by
              rw [World.cell?_of_block (a := ⟨b, off + j, none⟩) (hch.block b (World.block_lt_of_cell? _ _ hu) (hN0 b hb).1 (hN0 b hb).2)]
              exact hu
            have hsl' : SlB N wr u ls[j] := hsl.chg hch hN0
            have hlim : (l ++ (ls.take j).flatten).length + ls[j].length ≤ 1073741824 := by
              have h1 := flk_succ hlt
              have h2 := flk_le ls (j + 1)
              have h3 : (l ++ (ls.take j).flatten).length = l.length + flk ls j := by rw [List.length_append]; rfl
              omega
            have hpr : p < wr.heap.size := (Array.getElem?_eq_some_iff.1 hh).1
            have hrel' : ∀ wr', DGo w p g wr' r s (l ++ (ls.take j).flatten ++ ls[j]) → ∃ k : Nat, k ≤ ls.length ∧ Value.int .i64 ((j : Int) + 1) = .int .i64 k ∧ DGo w p g wr' r s (l ++ (ls.take k).flatten) := fun wr' h =>
              ⟨j + 1, hlt, by simp, by rw [hfl, ← List.append_assoc]; exact h⟩
            generalize ls[j] = y at *
            generalize l ++ (ls.take j).flatten = x at *
            clear hfl hsl hu hc
            rcases hsl' with ⟨rfl, aa, rfl⟩ | ⟨b3, off3, cap3, rfl, s1, s2, s3, s4⟩
            · rw [List.append_nil] at hrel'
              cases aa with
              | none =>
                go_wp2_with (first
                  | (at_builtin; refine wpList_append_own_none rfl _ _ 28 rfl (p + 1) 5 i0 1 Try.underlying28 hi _ _ _ rfl hr rfl ?_)
                  | go_in)
                go_roundw
                case rel =>
                  refine hrel' _ (DGo.trans hch hg' ⟨g', ⟨_, ?_, ownsRow_set hr (by omega), hgo⟩, chg_set _, fun k hk => .inl hk⟩)
                  rw [heap_setCell_same _ _ _ _ _ _ hh]
                  rfl
                case measure => simp only [intOf]; omega
              | some ad =>
                go_wp2_with (first
                  | (at_builtin; refine wpList_append_own_at _ rfl _ _ 28 rfl (p + 1) 5 i0 (.int .u8 0) 1 1 Try.underlying28 hi hz0 hz1 hz2 rfl (by decide) _ _ _ rfl hr ad 0 0 [] rfl rfl ?e1 ?e2 ?e3 ?e4 ?e5 ?_)
                  | go_in)
                case e1 => intro j u hj; simp at hj
                case e2 => intro u hu; cases hu
                case e3 => unfold maxLen; omega
                case e4 => omega
                case e5 => omega
                intro v' w2 hown' hgrow hnil hat
                obtain ⟨a2, cp2, rfl, hl2, hm2⟩ := ownsRow_len hown'
                try rw [hgo] at hgrow
                try rw [hgo] at hat
                have hne : some p ≠ g' := fun e => by have := (hr.lt p (hgo.trans e.symm)).1; omega
                have hp2 := (hgrow.block p hpr hne).trans hh
                have d2 := cells_at hp2 2
                have e2 := frz_at hp2 2
                simp only [List.getElem?_toArray, List.getElem?_cons_zero, List.getElem?_cons_succ] at d2
                go_wp2
                go_roundw
                case rel =>
                  refine hrel' _ (DGo.trans hch hg' ⟨(Value.slice a2 x.length cp2).ownBlock, ⟨_, ?_, ?_, rfl⟩, ?_, fun k hk => ?_⟩)
                  · rw [heap_setCell_same _ _ _ _ _ _ hp2]
                    rfl
                  · exact ownsRow_set (by simpa using hown') (by omega)
                  · exact (Chg.mk hgrow.os hgrow.tape hgrow.output hgrow.size fun k hk hkp hkg => hgrow.block k hk hkg).trans (chg_set _) fun k hk => .inl hk
                  · rcases hat with h1 | h1
                    · exact .inl (h1.symm.trans hk)
                    · have h1 := h1.symm.trans hk
                      cases h1; exact .inr (Nat.le_refl _)
                case measure => simp only [intOf]; omega
            · go_wp2_with (first
                | (at_builtin; refine wpList_append_own_at _ rfl _ _ 28 rfl (p + 1) 5 i0 (.int .u8 0) 1 1 Try.underlying28 hi hz0 hz1 hz2 rfl (by decide) _ _ _ rfl hr ⟨b3, off3, none⟩ y.length cap3 (bvs y) rfl ?c0 ?c1 (bvs_one y) ?c3 ?c4 ?c5 ?_)
                | go_in)
              case c0 => rw [bvs_length, Nat.mul_one]
              case c1 =>
                intro jj u hj
                have := s4 jj u hj
                have hplain : (⟨b3, off3, none⟩ : Addr).add jj = ⟨b3, off3 + jj, none⟩ := by unfold Addr.add; split <;> simp_all
                rw [hplain]; exact this
              case c3 => unfold maxLen; omega
              case c4 => omega
              case c5 => omega
              intro v' w2 hown' hgrow hnil hat
              obtain ⟨a2, cp2, rfl, hl2, hm2⟩ := ownsRow_len hown'
              try rw [hgo] at hgrow
              try rw [hgo] at hat
              have hne : some p ≠ g' := fun e => by have := (hr.lt p (hgo.trans e.symm)).1; omega
              have hp2 := (hgrow.block p hpr hne).trans hh
              have d2 := cells_at hp2 2
              have e2 := frz_at hp2 2
              simp only [List.getElem?_toArray, List.getElem?_cons_zero, List.getElem?_cons_succ] at d2
              go_wp2
              go_roundw
              case rel =>
                refine hrel' _ (DGo.trans hch hg' ⟨(Value.slice a2 (x.length + y.length) cp2).ownBlock, ⟨_, ?_, ?_, rfl⟩, ?_, fun k hk => ?_⟩)
                · rw [heap_setCell_same _ _ _ _ _ _ hp2]
                  rfl
                · rw [List.length_append, bvs_append]
                  exact ownsRow_set hown' (by omega)
                · exact (Chg.mk hgrow.os hgrow.tape hgrow.output hgrow.size fun k hk hkp hkg => hgrow.block k hk hkg).trans (chg_set _) fun k hk => .inl hk
                · rcases hat with h1 | h1
                  · exact .inl (h1.symm.trans hk)
                  · have h1 := h1.symm.trans hk
                    cases h1; exact .inr (Nat.le_refl _)
              case measure => simp only [intOf]; omega
          · rw [List.take_of_length_le (by omega)] at hgo0
            clear hc
            go_wp2
            go_ret
            exact .inl ⟨hfit, rfl, hgo0⟩
end Go.Proofs
