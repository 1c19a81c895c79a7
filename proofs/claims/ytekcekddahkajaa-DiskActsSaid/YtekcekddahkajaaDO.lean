/-
  Seat 07 (disk): the reference's disk, walked with the kit.
-/
import Derived.Test.YtekcekddahkajaaDM
import Derived.Deep.RegionHeldLaw
import Derived.Deep.RegionLaw
import Derived.Deep.DrawnRows
namespace Go.Proofs
open Go.RowKit Ytekcekddahkajaa
set_option linter.unusedSimpArgs false
set_option linter.unusedVariables false
set_option maxHeartbeats 4000000
set_option maxRecDepth 1000000
attribute [local go_sem ↓] Go.wp_at_zero Go.wp_at_succ
/-- Bytes behind a row of one's own. -/
theorem run_app {w : World} {base : Nat} {v u : Value} {l m : List UInt8} {N : Nat → Prop} (hr : w.ownsRow base 5 1 v l.length (bvs l)) (hs : SlB N w u m) (hb : base ≤ w.heap.size) (hlim : l.length + m.length ≤ 2147483648) (ty : TypeId) :
    ∃ v' w', (Builtin.append_ #[28, 28] ty #[v, u]).run Try.prog w = .ok v' w' ∧ w'.ownsRow base 5 1 v' (l ++ m).length (bvs (l ++ m)) ∧ w.grownBy w' v.ownBlock ∧ (v'.ownBlock = v.ownBlock ∨ v'.ownBlock = some w.heap.size) := by
  obtain ⟨i0, hi, hz0, hz1, hz2⟩ := info_parts byteInfo
  have key : ∀ ad c, (∀ j x, (bvs m)[j]? = some x → w.cell? ((ad : Addr).add j) = some x) → ∃ v' w', (Builtin.append_ #[28, 28] ty #[v, .slice (some ad) m.length c]).run Try.prog w = .ok v' w' ∧ w'.ownsRow base 5 1 v' (l ++ m).length (bvs (l ++ m)) ∧ w.grownBy w' v.ownBlock ∧ (v'.ownBlock = v.ownBlock ∨ v'.ownBlock = some w.heap.size) := fun ad c hc => by
    obtain ⟨v', w', h1, h2, h3, h4, h5⟩ := run_append_own_at (P := Try.prog) w base 28 ty 5 i0 (.int .u8 0) 1 1 Try.underlying28 hi hz0 hz1 hz2 rfl (by decide) v l.length (bvs l) hr ad m.length c (bvs m) (by rw [bvs_length, Nat.mul_one]) hc (bvs_one m) (by unfold maxLen; omega) (by omega) hb
    exact ⟨v', w', h1, by rw [List.length_append, bvs_append]; exact h2, h3, h5⟩
  rcases hs with ⟨rfl, a, rfl⟩ | ⟨b, off, cap, rfl, h1, h2, h3, h4⟩
  · cases a with
    | none => exact ⟨v, w, run_append_owned_none (P := Try.prog) (w := w) base 28 ty 5 i0 1 Try.underlying28 hi v l.length (bvs l) hr, by rw [List.append_nil]; exact hr, ⟨rfl, rfl, rfl, Nat.le_refl _, fun _ _ _ => rfl⟩, .inl rfl⟩
    | some ad => exact key ad 0 fun j x hj => by simp [bvs] at hj
  · refine key _ _ fun j x hj => ?_
    have := h4 j x hj
    have hplain : (⟨b, off, none⟩ : Addr).add j = ⟨b, off + j, none⟩ := by unfold Addr.add; split <;> simp_all
    rw [hplain]; exact this
theorem wp_app {w : World} {o : Oper} {a : Act} {K : Act → World → Prop} {Q : Exit → Act → World → Prop} {base : Nat} {v u : Value} {l m : List UInt8} {N : Nat → Prop} (s x : Operand)
    (ho : o.op = .call { callee := .builtin .append, args := #[s, x], argTypes := #[28, 28] }) (hsv : a.eval s = v) (hxv : a.eval x = u)
    (hr : w.ownsRow base 5 1 v l.length (bvs l)) (hs : SlB N w u m) (hb : base ≤ w.heap.size) (hlim : l.length + m.length ≤ 2147483648)
    (h : ∀ v' w', w'.ownsRow base 5 1 v' (l ++ m).length (bvs (l ++ m)) → w.grownBy w' v.ownBlock → (v'.ownBlock = v.ownBlock ∨ v'.ownBlock = some w.heap.size) → K (a.put o.dst v') w') : o.wp Try.prog a w K Q := by
  obtain ⟨v', w', hr, h2, h3, h4⟩ := run_app hr hs hb hlim o.type
  unfold Oper.wp execOp
  simp only [ho, resolve, invoke, builtin, Sem.run_bind, Sem.run_pure, Result.andThen_ok, List.map_toArray, List.map_cons, List.map_nil, hsv, hxv, hr]
  exact h v' w' h2 h3 h4
theorem step_app {w : World} {ops : Array Oper} {o : Oper} {a : Act} {K : Act → World → Prop} {Q : Exit → Act → World → Prop} {E : Prop} (hgd : o.guard = none) {base : Nat} {v u : Value} {l m : List UInt8} {N : Nat → Prop} (s x : Operand)
    (ho : o.op = .call { callee := .builtin .append, args := #[s, x], argTypes := #[28, 28] }) (hsv : a.eval s = v) (hxv : a.eval x = u)
    (hr : w.ownsRow base 5 1 v l.length (bvs l)) (hs : SlB N w u m) (hb : base ≤ w.heap.size) (hlim : l.length + m.length ≤ 2147483648)
    (h : ∀ v' w', w'.ownsRow base 5 1 v' (l ++ m).length (bvs (l ++ m)) → w.grownBy w' v.ownBlock → (v'.ownBlock = v.ownBlock ∨ v'.ownBlock = some w.heap.size) → K (a.put o.dst v') w') :
    if Region.wanted o (yielded ops a.tmps) = true then Oper.wp Try.prog o a w K Q else E := by
  have hw : Region.wanted o (yielded ops a.tmps) = true := by simp [Region.wanted, hgd]
  rw [if_pos hw]
  exact wp_app s x ho hsv hxv hr hs hb hlim h
/-- Blocks outside F are as they were. -/
structure ChgF (F : Nat → Prop) (w w' : World) : Prop where
  os : w'.os = w.os
  tape : w'.tape = w.tape
  output : w'.output = w.output
  size : w.heap.size ≤ w'.heap.size
  block : ∀ k, k < w.heap.size → ¬ F k → w'.heap[k]? = w.heap[k]?
theorem ChgF.trans {F G : Nat → Prop} {w w1 w2 : World} (h : ChgF F w w1) (k : ChgF G w1 w2) (hg : ∀ k, G k → F k ∨ w.heap.size ≤ k) : ChgF F w w2 :=
  ⟨k.os.trans h.os, k.tape.trans h.tape, k.output.trans h.output, Nat.le_trans h.size k.size, fun j hj hf => by
    rw [k.block j (Nat.lt_of_lt_of_le hj h.size) (fun e => by rcases hg j e with h1 | h1; exact hf h1; omega), h.block j hj hf]⟩
theorem ChgF.of_below {F : Nat → Prop} {w w' : World} (h : Below w.heap.size w w') : ChgF F w w' := ⟨h.os, h.tape, h.output, h.size, fun k hk _ => h.block k hk⟩
theorem ChgF.set {F : Nat → Prop} {w : World} {p o : Nat} (x : Value) (hp : F p) : ChgF F w (w.setCell ⟨p, o, none⟩ x) :=
  ⟨rfl, rfl, rfl, by simp, fun k _ hk => heap_setCell_other _ _ _ _ (show k ≠ p from fun e => hk (e ▸ hp))⟩
theorem ChgF.grown {F : Nat → Prop} {w w' : World} {g : Option Nat} (h : w.grownBy w' g) (hg : ∀ k, g = some k → F k) : ChgF F w w' :=
  ⟨h.os, h.tape, h.output, h.size, fun k hk hf => h.block k hk fun e => hf (hg k e.symm)⟩
def RefP (w : World) (q : Nat) (room : Int) (sf rs : List UInt8) (g1 g2 : Option Nat) : Prop :=
  ∃ v1 v2, w.heap[q]? = some (.cells #[.int .i64 room, v1, v2] 41 (0, 0)) ∧ w.ownsRow (q + 1) 5 1 v1 sf.length (bvs sf) ∧ v1.ownBlock = g1 ∧ w.ownsRow (q + 1) 5 1 v2 rs.length (bvs rs) ∧ v2.ownBlock = g2 ∧ ∀ k, g1 = some k → g2 ≠ some k
def RF (q : Nat) (g1 g2 : Option Nat) (k : Nat) : Prop := k = q ∨ g1 = some k ∨ g2 = some k
def RGo (w : World) (q : Nat) (g1 g2 : Option Nat) (w' : World) (room : Int) (sf rs : List UInt8) : Prop :=
  ∃ g1' g2', RefP w' q room sf rs g1' g2' ∧ ChgF (RF q g1 g2) w w' ∧ ∀ k, RF q g1' g2' k → RF q g1 g2 k ∨ w.heap.size ≤ k
theorem ownsRow_grow {w w' : World} {base e size n : Nat} {v : Value} {xs : List Value} (h : w.ownsRow base e size v n xs) (hb : ∀ k, v.ownBlock = some k → w'.heap[k]? = w.heap[k]?) : w'.ownsRow base e size v n xs := by
  refine ⟨h.1, ?_⟩
  rcases h.2 with hn | ⟨g, cap, cur, rfl, hq, hg, rest⟩
  · exact .inl hn
  · exact .inr ⟨g, cap, cur, rfl, hq, by rw [hb g rfl]; exact hg, rest⟩
theorem RefP.lt {w : World} {q : Nat} {room : Int} {sf rs : List UInt8} {g1 g2 : Option Nat} (h : RefP w q room sf rs g1 g2) : q < w.heap.size ∧ ∀ k, RF q g1 g2 k → q ≤ k ∧ k < w.heap.size := by
  obtain ⟨v1, v2, h1, h2, h3, h4, h5, h6⟩ := h
  have hq := (Array.getElem?_eq_some_iff.1 h1).1
  refine ⟨hq, fun k hk => ?_⟩
  rcases hk with rfl | hk | hk
  · omega
  · have := h2.lt k (h3.trans hk); omega
  · have := h4.lt k (h5.trans hk); omega
theorem RefP.keep {w w' : World} {q : Nat} {room : Int} {sf rs : List UInt8} {g1 g2 : Option Nat} (h : RefP w q room sf rs g1 g2) (hb : ∀ k, RF q g1 g2 k → w'.heap[k]? = w.heap[k]?) : RefP w' q room sf rs g1 g2 := by
  obtain ⟨v1, v2, h1, h2, h3, h4, h5, h6⟩ := h
  exact ⟨v1, v2, by rw [hb q (.inl rfl)]; exact h1, ownsRow_grow h2 fun k hk => hb k (.inr (.inl (h3.symm.trans hk))), h3, ownsRow_grow h4 fun k hk => hb k (.inr (.inr (h5.symm.trans hk))), h5, h6⟩
theorem RefP.grow {w w' : World} {q : Nat} {room : Int} {sf rs : List UInt8} {g1 g2 : Option Nat} (h : RefP w q room sf rs g1 g2) (hb : Below w.heap.size w w') : RefP w' q room sf rs g1 g2 :=
  h.keep fun k hk => hb.block k (h.lt.2 k hk).2
theorem SlB.keep {N : Nat → Prop} {w w' : World} {v : Value} {l : List UInt8} (h : SlB N w v l) (hN : ∀ b, N b → w'.heap[b]? = w.heap[b]?) : SlB N w' v l := by
  rcases h with h | ⟨b, off, cap, h0, h1, h2, h3, h4⟩
  · exact .inl h
  · refine .inr ⟨b, off, cap, h0, h1, h2, h3, fun j x hj => ?_⟩
    have hl : l ≠ [] := by rintro rfl; simp [bvs] at hj
    rw [World.cell?_of_block (a := ⟨b, off + j, none⟩) (hN b (h3 hl))]
    exact h4 j x hj
/-- All: a new row. -/
theorem all_walk {w : World} {q : Nat} {room : Int} {sf rs : List UInt8} {g1 g2 : Option Nat} (h : RefP w q room sf rs g1 g2) (hl : sf.length + rs.length ≤ 1073741824) :
    Calls Try.prog 19 #[.pointer (some ⟨q, 0, none⟩)] w fun e w' => ∃ u, e = .returned u ∧ w'.ownsRow w.heap.size 5 1 u (sf ++ rs).length (bvs (sf ++ rs)) ∧ Below w.heap.size w w' := by
  obtain ⟨v1, v2, hh, h1, e1, h2, e2, h6⟩ := h
  have hq := (Array.getElem?_eq_some_iff.1 hh).1
  have c1 := cells_at hh 1
  have c2 := cells_at hh 2
  simp only [List.getElem?_toArray, List.getElem?_cons_zero, List.getElem?_cons_succ] at c1 c2
  have hown0 := World.ownsRow_made (base := w.heap.size) (e := 5) (size := 1) w #[] 0 (Nat.le_refl _) (by unfold maxLen; omega) rfl
  go_enter Try.func19, Try.ntmps19
  go_wp2
  have hb0 : Below w.heap.size w (w.alloc (.cells #[] 5)).drew := ((Below.refl _ w).alloc (Nat.le_refl _) _).drew
  have hs1 := (ownsRow_slB h1).grow hb0
  have hs2 := ownsRow_slB h2
  have hown0' : (w.alloc (.cells #[] 5)).drew.ownsRow w.heap.size 5 1 (.slice (some ⟨w.heap.size, 0, none⟩) 0 0) ([] : List UInt8).length (bvs []) := hown0
  go_region_held_law (fun w' => w'.cell? ⟨q, 1, none⟩ = some v1 ∧ w'.cell? ⟨q, 2, none⟩ = some v2)
    (first | go_keep | exact ⟨((by assumption : Below w.heap.size w _).cell (p := ⟨q, 1, none⟩) hq).trans c1, ((by assumption : Below w.heap.size w _).cell (p := ⟨q, 2, none⟩) hq).trans c2⟩)
    (first
      | (refine step_app (by rfl) (.tmp 3) (.tmp 7) (by rfl) (by rfl) (by rfl) hown0' hs1 hb0.size ?_ ?_
         (· simp only [List.length_nil]; omega)
         intro v' W2 hown1 hgrow1 hat1
         have hb1 : Below w.heap.size w W2 := hb0.grown hgrow1 hb0.size (fun j hj => by cases hj; exact Nat.le_refl _)
         have hs2' := hs2.grow hb1)
      | (refine step_app (by rfl) (.tmp 8) (.tmp 12) (by rfl) (by rfl) (by rfl) hown1 hs2' hb1.size ?_ ?_
         (· simp only [List.nil_append]; omega)
         intro v3 W3 hown2 hgrow2 hat2
         have hb2 : Below w.heap.size w W3 := hb1.grown hgrow2 hb1.size (fun j hj => (hown1.lt j hj).1)))
  go_wp2
  go_ret
  exact ⟨v3, by simp, by simpa using hown2, hb2⟩
/-- Append: whether all fits. -/
theorem appR_walk {w : World} {q : Nat} {r : Int} {sf rs : List UInt8} {g1 g2 : Option Nat} {N : Nat → Prop} {v : Value} {ls : List (List UInt8)} (h : RefP w q r sf rs g1 g2) (hv : SlBs N w v ls) (hN : ∀ b, N b → b < w.heap.size ∧ ¬ RF q g1 g2 b)
    (h0 : ((sf.length + rs.length : Nat) : Int) ≤ r) (h1 : r ≤ 1073741824) (hls : ls.length ≤ 1000000000) :
    Calls Try.prog 17 #[.pointer (some ⟨q, 0, none⟩), v] w fun e w' =>
      (((sf.length + rs.length + tot ls : Nat) : Int) ≤ r ∧ e = .returned (.bool true) ∧ RGo w q g1 g2 w' r sf (rs ++ ls.flatten)) ∨
      (r < ((sf.length + rs.length + tot ls : Nat) : Int) ∧ e = .returned (.bool false) ∧ Below w.heap.size w w') := by
  have hq := h.lt.1
  have h00 := h
  obtain ⟨v1, v2, hh, o1, e1, o2, e2, h6⟩ := h
  obtain ⟨a1, k1, rfl, _, _⟩ := ownsRow_len o1
  obtain ⟨a2, k2, rfl, _, _⟩ := ownsRow_len o2
  have c0 := cells_at hh 0
  have c1 := cells_at hh 1
  have c2 := cells_at hh 2
  simp only [List.getElem?_toArray, List.getElem?_cons_zero, List.getElem?_cons_succ] at c0 c1 c2
  go_enter Try.func17, Try.ntmps17
  go_wp2
  go_region
  have b1 : Below w.heap.size w w.drew := (Below.refl _ w).drew
  have h' : RefP w.drew q r sf rs g1 g2 := h00.grow b1
  rcases hv with ⟨rfl, a, rfl⟩ | ⟨b, off, cap, rfl, hc⟩
  · go_wp2
    refine wp_loop_rounds 1 ?_
    rw [rounds_succ]
    go_wp2
    refine wp_loop_rounds 1 ?_
    rw [rounds_succ]
    go_wp2
    go_ret
    exact .inl ⟨by simpa [tot] using h0, rfl, g1, g2, by simpa using h', ChgF.of_below b1, fun k hk => .inl hk⟩
  · have hc1 : ∀ (i : Nat) (h : i < ls.length), ∃ a c, w.drew.cell? ⟨b, off + i, none⟩ = some (.slice a ls[i].length c) := fun i hi => by
      obtain ⟨hb, u, hu, hsl⟩ := hc i hi
      obtain ⟨a, c, rfl⟩ := hsl.len
      exact ⟨a, c, hu⟩
    have hdr : ∃ w1, w.drew = w1 := ⟨_, rfl⟩
    obtain ⟨w1, hw1⟩ := hdr
    rw [hw1] at b1 h' hc1
    go_wp2
    rw [hw1]
    go_loopw [5, 6] (fun lf i wr => ∃ k : Nat, k ≤ ls.length ∧ i = .int .i64 k ∧ lf = .int .i64 (r - (sf.length : Int) - (rs.length : Int) - (flk ls k : Int)) ∧ (sf.length : Int) + (rs.length : Int) + (flk ls k : Int) ≤ r ∧ w1 = wr)
      (fun _ i _ => ls.length - (intOf i).toNat)
    case atStart => exact ⟨0, Nat.zero_le _, rfl, by rw [flk_zero]; simp, by rw [flk_zero]; simpa using h0, rfl⟩
    case round =>
      obtain ⟨k, hk, rfl, rfl, hfit, rfl⟩ := hrel
      by_cases hlt : k < ls.length
      · obtain ⟨a, c, hu⟩ := hc1 k hlt
        have hft := flk_succ hlt
        have hle := flk_le ls (k + 1)
        clear hc1 hc
        by_cases hbig : (ls[k].length : Int) ≤ r - (sf.length : Int) - (rs.length : Int) - (flk ls k : Int)
        · have hbig' : ¬ (r - (sf.length : Int) - (rs.length : Int) - (flk ls k : Int) < (ls[k].length : Int)) := by omega
          go_wp2
          exact ⟨⟨k + 1, by omega, by simp, by rw [hft]; simp; omega, by omega, trivial⟩, by simp only [intOf]; omega⟩
        · have hbig' : r - (sf.length : Int) - (rs.length : Int) - (flk ls k : Int) < (ls[k].length : Int) := by omega
          go_wp2
          go_ret
          exact .inr ⟨by omega, rfl, b1⟩
      · rw [flk_all (by omega)] at hfit
        clear hc1
        go_wp2
        go_loopw [7] (fun i wr => ∃ k : Nat, k ≤ ls.length ∧ i = .int .i64 k ∧ RGo w q g1 g2 wr r sf (rs ++ (ls.take k).flatten))
          (fun i _ => ls.length - (intOf i).toNat)
        case atStart => exact ⟨0, Nat.zero_le _, rfl, g1, g2, by simpa using h', ChgF.of_below b1, fun k hk => .inl hk⟩
        case round =>
          obtain ⟨j, hj, rfl, hgo0⟩ := hrel
          by_cases hlt : j < ls.length
          · obtain ⟨g1', g2', hd, hch, hg'⟩ := hgo0
            obtain ⟨hb, u, hu, hsl⟩ := hc j hlt
            have hN0 : ∀ b, N b → wr.heap[b]? = w.heap[b]? := fun b hb => hch.block b (hN b hb).1 (hN b hb).2
            have hu' : wr.cell? ⟨b, off + j, none⟩ = some u := by
              rw [World.cell?_of_block (a := ⟨b, off + j, none⟩) (hN0 b hb)]
              exact hu
            have hsl' : SlB N wr u ls[j] := hsl.keep hN0
            have hlr := hd.lt
            have hd0 := hd
            obtain ⟨x1, x2, yh, p1, t1, p2, t2, t6⟩ := hd
            have y2 := cells_at yh 2
            have z2 := frz_at yh 2
            simp only [List.getElem?_toArray, List.getElem?_cons_zero, List.getElem?_cons_succ] at y2
            have hfl : (ls.take (j + 1)).flatten = (ls.take j).flatten ++ ls[j] := flatten_take hlt
            have hlim : (rs ++ (ls.take j).flatten).length + ls[j].length ≤ 2147483648 := by
              have h1 := flk_succ hlt
              have h2 := flk_le ls (j + 1)
              have h3 : (rs ++ (ls.take j).flatten).length = rs.length + flk ls j := by rw [List.length_append]; rfl
              omega
            have hrel' : ∀ wr', RGo w q g1 g2 wr' r sf (rs ++ (ls.take j).flatten ++ ls[j]) → ∃ k : Nat, k ≤ ls.length ∧ Value.int .i64 ((j : Int) + 1) = .int .i64 k ∧ RGo w q g1 g2 wr' r sf (rs ++ (ls.take k).flatten) := fun wr' h =>
              ⟨j + 1, hlt, by simp, by rw [hfl, ← List.append_assoc]; exact h⟩
            have i1 : (0 : Int) ≤ (j : Int) := by omega
            have i2 : (j : Int) < (ls.length : Int) := by omega
            generalize ls[j] = y at *
            generalize rs ++ (ls.take j).flatten = x at *
            have p2' : wr.drew.ownsRow (q + 1) 5 1 x2 x.length (bvs x) := p2
            have hsl2 : SlB N wr.drew u y := hsl'.keep fun _ _ => rfl
            have hq1 : q + 1 ≤ wr.drew.heap.size := hlr.1
            have hne : some q ≠ x2.ownBlock := fun e => by have := (p2.lt q e.symm).1; omega
            have hneb : some b ≠ x2.ownBlock := fun e => by
              rcases hg' b (.inr (.inr (t2.symm.trans e.symm))) with h1 | h1
              · exact (hN b hb).2 h1
              · have := (hN b hb).1; omega
            clear hfl hsl hu hc
            go_wp2
            go_region_law
              (first
                | (refine step_app (by rfl) (.tmp 54) (.tmp 58) (by rfl) (by rfl) (by rfl) p2' hsl2 hq1 hlim ?_
                   intro v' W2 hown1 hgrow1 hat1
                   obtain ⟨av, cv, rfl, _, _⟩ := ownsRow_len hown1
                   have yh2 := (hgrow1.block q hlr.1 hne).trans yh
                   have hk1 : W2.cell? ⟨q, 2, none⟩ = some x2 ∧ W2.frozen? ⟨q, 2, none⟩ = false ∧ W2.cell? ⟨b, off + j, none⟩ = some u :=
                     ⟨(World.cell?_of_block (a := ⟨q, 2, none⟩) (hgrow1.block q hlr.1 hne)).trans y2, frz_at yh2 2, hgrow1.cell (w := wr.drew) hu' hneb⟩))
            all_goals
              have hfin : RGo w q g1 g2 (W2.setCell ⟨q, 2, none⟩ (.slice av (x ++ y).length cv)) r sf (x ++ y) := by
                have hg1 : wr.grownBy W2 x2.ownBlock := ⟨hgrow1.os, hgrow1.tape, hgrow1.output, hgrow1.size, hgrow1.block⟩
                have hgF : ∀ k, x2.ownBlock = some k → RF q g1' g2' k := fun k hk => .inr (.inr (t2.symm.trans hk))
                refine ⟨g1', (Value.slice av (x ++ y).length cv).ownBlock, ⟨x1, _, ?_, ?_, t1, ownsRow_set hown1 (by omega), rfl, ?_⟩, hch.trans (ChgF.trans (F := RF q g1' g2') (ChgF.grown hg1 hgF) (ChgF.set (F := RF q g1' g2') _ (.inl rfl)) fun k hk => .inl hk) fun k hk => hg' k hk, fun k hk => ?_⟩
                · rw [heap_setCell_same _ _ _ _ _ _ yh2]
                  rfl
                · refine ownsRow_set (ownsRow_grow p1 fun k hk => ?_) (by omega)
                  have h7 := p1.lt k hk
                  refine hgrow1.block k h7.2 fun e => ?_
                  exact t6 k (t1.symm.trans hk) (t2.symm.trans e.symm)
                · intro k hk1 hk2
                  have h7 := p1.lt k (t1.trans hk1)
                  rcases hat1 with h1 | h1
                  · exact t6 k hk1 (t2.symm.trans (h1.symm.trans hk2))
                  · have h1 := h1.symm.trans hk2
                    cases h1
                    have : wr.drew.heap.size = wr.heap.size := rfl
                    omega
                · rcases hk with hk | hk | hk
                  · exact hg' k (.inl hk)
                  · exact hg' k (.inr (.inl hk))
                  · rcases hat1 with h1 | h1
                    · exact hg' k (.inr (.inr (t2.symm.trans (h1.symm.trans hk))))
                    · have h1 := h1.symm.trans hk
                      cases h1
                      exact .inr hch.size
              rw [List.length_append] at hfin
              go_wp2
              exact ⟨hrel' _ hfin, by simp only [intOf]; omega⟩
          · rw [List.take_of_length_le (by omega)] at hgo0
            clear hc
            go_wp2
            go_ret
            exact .inl ⟨by omega, rfl, hgo0⟩
/-- Crash: as much as is kept. -/
theorem crashR_walk {w : World} {q : Nat} {r : Int} {sf rs : List UInt8} {g1 g2 : Option Nat} (h : RefP w q r sf rs g1 g2) (k : Int) (hl : sf.length + rs.length ≤ 1073741824) :
    Calls Try.prog 18 #[.pointer (some ⟨q, 0, none⟩), .int .i64 k] w fun e w' => (∃ u, e = .returned u) ∧ RGo w q g1 g2 w' r (sf ++ rs.take (max k 0).toNat) [] := by
  have hq := h.lt.1
  go_enter Try.func18, Try.ntmps18
  go_wp2
  go_loopw [4] (fun i wr => ∃ j : Nat, j ≤ rs.length ∧ j ≤ (max k 0).toNat ∧ i = .int .i64 j ∧ RGo w q g1 g2 wr r (sf ++ rs.take j) rs)
    (fun i _ => rs.length - (intOf i).toNat)
  case atStart => exact ⟨0, Nat.zero_le _, Nat.zero_le _, rfl, g1, g2, by simpa using h, ChgF.of_below (Below.refl _ _), fun k hk => .inl hk⟩
  case round =>
    obtain ⟨j, hj, hjk, rfl, g1', g2', hd, hch, hg'⟩ := hrel
    have hlr := hd.lt
    have hd0 := hd
    obtain ⟨x1, x2, yh, p1, t1, p2, t2, t6⟩ := hd
    obtain ⟨a2, c2, rfl, _, hcm⟩ := ownsRow_len p2
    have y1 := cells_at yh 1
    have y2 := cells_at yh 2
    have z1 := frz_at yh 1
    have z2 := frz_at yh 2
    simp only [List.getElem?_toArray, List.getElem?_cons_zero, List.getElem?_cons_succ] at y1 y2
    by_cases hlt : j < rs.length ∧ (j : Int) < k
    · obtain ⟨hlt, hlk⟩ := hlt
      obtain ⟨gb, rfl⟩ : ∃ gb, a2 = some ⟨gb, 0, none⟩ := by
        rcases p2.2 with ⟨h1, h2⟩ | ⟨g, cap, cur, h1, _⟩
        · omega
        · simp only [Value.slice.injEq] at h1; exact ⟨g, h1.1⟩
      have hcell : wr.cell? ⟨gb, j, none⟩ = some (.int .u8 (rs[j].toNat : Int)) := by
        have := p2.cells (g := gb) rfl j (.int .u8 (rs[j].toNat : Int)) (by simp [bvs, hlt])
        have hplain : (⟨gb, 0, none⟩ : Addr).add j = ⟨gb, 0 + j, none⟩ := by unfold Addr.add; split <;> simp_all
        rw [hplain, Nat.zero_add] at this
        exact this
      have i1 : (0 : Int) ≤ (j : Int) := by omega
      have i2 : (j : Int) < (rs.length : Int) := by omega
      have hx1 : rs.take (j + 1) = rs.take j ++ [rs[j]] := List.take_succ_eq_append_getElem hlt
      have hrel' : ∀ wr', RGo w q g1 g2 wr' r (sf ++ rs.take j ++ [rs[j]]) rs → ∃ i : Nat, i ≤ rs.length ∧ i ≤ (max k 0).toNat ∧ Value.int .i64 ((j : Int) + 1) = .int .i64 i ∧ RGo w q g1 g2 wr' r (sf ++ rs.take i) rs := fun wr' h =>
        ⟨j + 1, hlt, by omega, by simp, by rw [hx1, ← List.append_assoc]; exact h⟩
      have hlim : (sf ++ rs.take j).length + [rs[j]].length ≤ 2147483648 := by simp; omega
      have p1' : (wr.alloc (.cells #[.int .u8 (rs[j].toNat : Int)] 5)).drew.ownsRow (q + 1) 5 1 x1 (sf ++ rs.take j).length (bvs (sf ++ rs.take j)) := p1.alloc _
      have hsl2 : SlB (fun _ => True) (wr.alloc (.cells #[.int .u8 (rs[j].toNat : Int)] 5)).drew (.slice (some ⟨wr.heap.size, 0, none⟩) 1 1) [rs[j]] :=
        slB_cells (l := [rs[j]]) (T := 5) (fz := (0, 0)) (heap_alloc_new wr _) trivial (Nat.le_refl _) (by unfold maxLen; omega)
      have hq1 : q + 1 ≤ (wr.alloc (.cells #[.int .u8 (rs[j].toNat : Int)] 5)).drew.heap.size := by have := hlr.1; simp; omega
      have hne : some q ≠ x1.ownBlock := fun e => by have := (p1.lt q e.symm).1; omega
      clear hx1
      generalize sf ++ rs.take j = x at *
      generalize rs[j] = y at *
      generalize (y.toNat : Int) = yn at *
      go_wp2
      go_region_law
        (first
          | (refine step_app (by rfl) (.tmp 23) (.tmp 31) (by rfl) (by rfl) (by rfl) p1' hsl2 hq1 hlim ?_
             intro v' W2 hown1 hgrow1 hat1
             obtain ⟨av, cv, rfl, _, _⟩ := ownsRow_len hown1
             have yh2 : W2.heap[q]? = _ := (hgrow1.block q (by simp; have := hlr.1; omega) hne).trans ((heap_alloc_old wr _ hlr.1).trans yh)
             have k1 := cells_at yh2 1
             have k2 := frz_at yh2 1
             simp only [List.getElem?_toArray, List.getElem?_cons_zero, List.getElem?_cons_succ] at k1))
      all_goals
        have hfin : RGo w q g1 g2 (W2.setCell ⟨q, 1, none⟩ (.slice av (x ++ [y]).length cv)) r (x ++ [y]) rs := by
          have hg1 : wr.grownBy W2 x1.ownBlock := ⟨hgrow1.os, hgrow1.tape, hgrow1.output, by have := hgrow1.size; simp at this; omega, fun k hk hk2 => (hgrow1.block k (by simp; omega) hk2).trans (heap_alloc_old wr _ hk)⟩
          have hgF : ∀ k, x1.ownBlock = some k → RF q g1' g2' k := fun k hk => .inr (.inl (t1.symm.trans hk))
          refine ⟨(Value.slice av (x ++ [y]).length cv).ownBlock, g2', ⟨_, .slice (some ⟨gb, 0, none⟩) rs.length c2, ?_, ownsRow_set hown1 (by omega), rfl, ?_, t2, ?_⟩, hch.trans (ChgF.trans (F := RF q g1' g2') (ChgF.grown hg1 hgF) (ChgF.set (F := RF q g1' g2') _ (.inl rfl)) fun k hk => .inl hk) fun k hk => hg' k hk, fun k hk => ?_⟩
          · rw [heap_setCell_same _ _ _ _ _ _ yh2]
            rfl
          · refine ownsRow_set (ownsRow_grow p2 fun k hk => ?_) (by omega)
            have h7 := p2.lt k hk
            refine hg1.block k h7.2 fun e => ?_
            exact t6 k (t1.symm.trans e.symm) (t2.symm.trans hk)
          · intro k hk1 hk2
            have h7 := p2.lt k (t2.trans hk2)
            rcases hat1 with h1 | h1
            · exact t6 k (t1.symm.trans (h1.symm.trans hk1)) hk2
            · have h1 := h1.symm.trans hk1
              have : (wr.alloc (.cells #[.int .u8 yn] 5)).drew.heap.size = wr.heap.size + 1 := by simp
              rw [this] at h1
              cases h1
              omega
          · rcases hk with hk | hk | hk
            · exact hg' k (.inl hk)
            · rcases hat1 with h1 | h1
              · exact hg' k (.inr (.inl (t1.symm.trans (h1.symm.trans hk))))
              · have h1 := h1.symm.trans hk
                have : (wr.alloc (.cells #[.int .u8 yn] 5)).drew.heap.size = wr.heap.size + 1 := by simp
                rw [this] at h1
                cases h1
                exact .inr (by have := hch.size; omega)
            · exact hg' k (.inr (.inr hk))
        rw [List.length_append, List.length_singleton] at hfin
        go_wp2
        exact ⟨hrel' _ hfin, by simp only [intOf]; omega⟩
    · have hstop : rs.take j = rs.take (max k 0).toNat := by
        by_cases h1 : j < rs.length
        · have h2 : ¬ (j : Int) < k := fun h2 => hlt ⟨h1, h2⟩
          have : j = (max k 0).toNat := by omega
          rw [this]
        · rw [List.take_of_length_le (by omega), List.take_of_length_le (by omega)]
      have hfin : RGo w q g1 g2 (wr.setCell ⟨q, 2, none⟩ (.slice none 0 0)) r (sf ++ rs.take (max k 0).toNat) [] := by
        rw [← hstop]
        refine ⟨g1', none, ⟨x1, .slice none 0 0, ?_, ownsRow_set p1 (by omega), t1, World.ownsRow_nil _ _ _ _, rfl, fun k _ h => by cases h⟩, hch.trans (ChgF.set (F := RF q g1' g2') _ (.inl rfl)) fun k hk => hg' k hk, fun k hk => ?_⟩
        · rw [heap_setCell_same _ _ _ _ _ _ yh]; rfl
        · rcases hk with hk | hk | hk
          · exact hg' k (.inl hk)
          · exact hg' k (.inr (.inl hk))
          · cases hk
      by_cases h1 : j < rs.length
      · have h2 : ¬ (j : Int) < k := fun h2 => hlt ⟨h1, h2⟩
        go_wp2
        go_end0
        exact ⟨⟨_, rfl⟩, hfin⟩
      · go_wp2
        go_end0
        exact ⟨⟨_, rfl⟩, hfin⟩
end Go.Proofs
