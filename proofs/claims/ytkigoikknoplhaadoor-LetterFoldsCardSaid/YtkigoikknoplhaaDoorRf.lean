/-
  Seat 01 (letter): Runes and Fold of the reference, walked with the kit: the row that Runes makes is written by Fold.
-/
import Derived.Test.YtkigoikknoplhaaDoorQp
import Derived.WalkKit
import Derived.WalkSmall
import Derived.Laws.OwnMore
import Derived.BigCall
import Derived.BigGuard
namespace Go.Proofs
open Go.RowKit YtkigoikknoplhaaDoor
theorem runeInfo : (Tryd.prog.info? 21).map (fun i => (i.zero, i.size, i.bytes)) = some (some (.int .i32 0), 1, 4) := by kernel_rfl

set_option maxHeartbeats 4000000 in
set_option maxRecDepth 1000000 in
theorem runes_walk (l : List UInt8) (w : World) (hs : l.length ≤ 1000000) :
    Calls Tryd.prog 16 #[.string ⟨l.toArray⟩] w fun e w' => ∃ v, e = .returned v ∧ w'.ownsRow (w.heap.size + 1) 21 1 v (AL.runeL l).length ((AL.runeL l).map (Value.int .i32)) ∧ Below w.heap.size w w' := by
  obtain ⟨i0, hi, hz0, hz1, hz2⟩ := info_parts runeInfo
  go_enter Tryd.func16, Tryd.ntmps16
  go_wp2
  have hrl := AL.runeL_len l
  go_loopw [3] (fun v wr => ∃ (pos : Nat) (acc : List Int), wr.ownsRow (w.heap.size + 1) 21 1 v acc.length (acc.map (Value.int .i32)) ∧ wr.heap[w.heap.size]? = some (.stringIter ⟨l.toArray⟩ pos) ∧ Below w.heap.size w wr ∧ acc ++ AL.restR l pos = AL.runeL l)
    (fun _ wr => l.length - wr.iterPos w.heap.size)
  case atStart => exact ⟨0, [], World.ownsRow_nil _ _ _ _, World.iter_heap w _ 0, (Below.refl _ w).alloc (Nat.le_refl _) _, rfl⟩
  case round =>
    obtain ⟨pos, acc, hown, hit, hbw, hacc⟩ := hrel
    have hsz : w.heap.size < wr.heap.size := (Array.getElem?_eq_some_iff.1 hit).1
    by_cases hp : pos < l.length
    · have hp' : pos < (ByteArray.mk l.toArray).size := by rw [AL.sizeT]; exact hp
      have hnx : ∀ ty, (Instr.next (.pointer (some ⟨w.heap.size, 0, none⟩)) true ty).run Tryd.prog wr = _ := fun ty => Lib.run_next_any_at wr w.heap.size ⟨l.toArray⟩ pos ty hit hp'
      have hwd := AL.decW_pos hp
      have hown2 := ownsRow_iterAt hown (k := w.heap.size) (by omega) ⟨l.toArray⟩ (pos + (Utf8.decode ⟨l.toArray⟩ pos).2)
      have hit2 := Lib.iterAt_heap wr w.heap.size ⟨l.toArray⟩ pos (pos + (Utf8.decode ⟨l.toArray⟩ pos).2) hit
      have hbw2 := Lib.below_iterAt hbw (k := w.heap.size) (by omega) ⟨l.toArray⟩ (pos + (Utf8.decode ⟨l.toArray⟩ pos).2)
      have hsz2 : w.heap.size < (wr.iterAt w.heap.size ⟨l.toArray⟩ (pos + (Utf8.decode ⟨l.toArray⟩ pos).2)).heap.size := by rw [Lib.iterAt_size]; omega
      have hmu : wr.iterPos w.heap.size = pos := iterPos_of hit
      rw [AL.restR_step hp] at hacc
      have er : AL.decR l pos = ((Utf8.decode ⟨l.toArray⟩ pos).1 : Int) := rfl
      have ew : AL.decW l pos = (Utf8.decode ⟨l.toArray⟩ pos).2 := rfl
      rw [er, ew] at hacc
      have hal : acc.length < l.length := by
        have := congrArg List.length hacc
        rw [List.length_append, List.length_cons] at this
        omega
      generalize wr.iterAt w.heap.size ⟨l.toArray⟩ (pos + (Utf8.decode ⟨l.toArray⟩ pos).2) = W1 at hnx hown2 hit2 hbw2 hsz2
      generalize (Utf8.decode ⟨l.toArray⟩ pos).1 = r at hnx hacc
      go_wp2_with (first
        | (at_builtin; refine wpList_append_own _ rfl _ _ 30 rfl (w.heap.size + 1) 21 i0 (.int .i32 0) 1 4 Tryd.underlying30 hi hz0 hz1 hz2 rfl (by decide) _ _ _ rfl (hown2.alloc _) ⟨W1.heap.size, 0, none⟩ 1 1 [.int .i32 (r : Int)] rfl rfl ?c1 ?c2 ?c3 ?c4 ?c5 ?_)
        | go_in)
      case c1 =>
        intro j u hj
        match j, hj with
        | 0, hj => simp at hj; subst hj; simp [Addr.add]
      case c2 => intro u hu; simp at hu; subst hu; rfl
      case c3 => unfold maxLen; omega
      case c4 => omega
      case c5 => simp; omega
      intro v' w1 hown' hgrow _
      have hne : some w.heap.size ≠ u3.ownBlock := fun h => by have := (hown2.lt _ h.symm).1; omega
      have hit3 : w1.heap[w.heap.size]? = some (.stringIter ⟨l.toArray⟩ (pos + (Utf8.decode ⟨l.toArray⟩ pos).2)) := by
        rw [hgrow.block w.heap.size (by simp; omega) hne, heap_alloc_old _ _ (by omega)]; exact hit2
      have hb3 : Below w.heap.size w w1 := (hbw2.alloc (by omega) _).grown hgrow (by simp; omega) (fun j hj => by have := (hown2.lt j hj).1; omega)
      go_wp2
      go_roundw
      case rel =>
        refine ⟨pos + (Utf8.decode ⟨l.toArray⟩ pos).2, acc ++ [(r : Int)], ?_, hit3, hb3, by rw [List.append_assoc]; exact hacc⟩
        simpa using hown'
      case measure =>
        rw [hmu, iterPos_of hit3]; omega
    · have hp' : ¬ pos < (ByteArray.mk l.toArray).size := by rw [AL.sizeT]; exact hp
      have hnx : ∀ ty, (Instr.next (.pointer (some ⟨w.heap.size, 0, none⟩)) true ty).run Tryd.prog wr = _ := fun ty => Lib.run_next_end_at wr w.heap.size ⟨l.toArray⟩ pos ty hit hp'
      rw [AL.restR_end (by omega), List.append_nil] at hacc
      subst hacc
      go_wp2
      go_ret
      exact ⟨_, rfl, hown, hbw⟩

/-- A row that is owned, as the abstract layer reads it. -/
theorem rep_own {w : World} {B e : Nat} {g cap : Nat} {l : List Int} (h : w.ownsRow B e 1 (.slice (some ⟨g, 0, none⟩) l.length cap) l.length (l.map (Value.int .i32))) :
    AL.Rep (AL.Gh.top w) w false (.slice (AL.rv l) 1 .ro) (.slice (some ⟨g, 0, none⟩) l.length cap) := by
  have hc : l.length ≤ cap ∧ cap ≤ maxLen := by
    rcases h.2 with ⟨h', _⟩ | ⟨_, _, _, h', _, _, h1, h2, _⟩
    · cases h'
    · cases h'; exact ⟨h1, h2⟩
  have hf : ∀ l : List Int, AL.flat (AL.rv l) = AL.rv l := fun l => by
    induction l with
    | nil => rfl
    | cons a l ih => exact congrArg (AL.AVal.int .i32 a :: ·) ih
  have key := AL.Rep.sliceRow (γ := AL.Gh.top w) (w := w) (l := false) (es := AL.rv l) (s := 1) (tag := .ro) (b := g) (off := 0) (cap := cap) (vs := l.map (Value.int .i32))
    (by
      rw [hf]
      unfold AL.rv
      clear h hc
      induction l with
      | nil => exact .nil _
      | cons a l ih => exact .cons (.int _ _ _) ih)
    (fun e he => by obtain ⟨x, _, rfl⟩ := List.mem_map.1 he; rfl)
    (fun j v hj => by
      have hlt : j < l.length := by
        rcases Nat.lt_or_ge j l.length with h1 | h1
        · exact h1
        · rw [List.getElem?_eq_none (by simpa using h1)] at hj; cases hj
      have hc := h.cellAt j (by omega)
      rw [hj] at hc
      rw [Nat.zero_add]
      exact ⟨⟨v, hc⟩, hc⟩)
    (fun v hv => by obtain ⟨x, _, rfl⟩ := List.mem_map.1 hv; rfl)
    (by simpa using hc.1) hc.2 trivial
  simpa using key

theorem tabs_below {w w' : World} {B : Nat} (hb : Below B w w') (h2 : ∀ x ∈ AL.tabs, x.1 < B) (hA : ∀ x ∈ AL.tabs, w.cell? ⟨x.1, x.2.1, none⟩ = some x.2.2) : ∀ x ∈ AL.tabs, w'.cell? ⟨x.1, x.2.1, none⟩ = some x.2.2 := fun x hx => by
  rw [hb.cell (p := ⟨x.1, x.2.1, none⟩) (h2 x hx)]; exact hA x hx
theorem tabs_lt {w : World} (hA : ∀ x ∈ AL.tabs, w.cell? ⟨x.1, x.2.1, none⟩ = some x.2.2) : ∀ x ∈ AL.tabs, x.1 < w.heap.size := fun x hx => by
  have h1 := hA x hx
  rcases Nat.lt_or_ge x.1 w.heap.size with h' | h'
  · exact h'
  · simp [World.cell?, Array.getElem?_eq_none h'] at h1
/-- Behind k rounds. -/
def foldK (R : List Int) (k : Nat) : List Int := (R.take k).map AL.fdR ++ R.drop k
theorem foldK_len (R : List Int) (k : Nat) : (foldK R k).length = R.length := by
  unfold foldK; rw [List.length_append, List.length_map, List.length_take, List.length_drop]; omega
theorem foldK_get (R : List Int) (k : Nat) (h : k < R.length) : (foldK R k)[k]? = some R[k] := by
  unfold foldK
  rw [List.getElem?_append_right (by rw [List.length_map, List.length_take]; omega), List.length_map, List.length_take, Nat.min_eq_left (by omega), Nat.sub_self, List.getElem?_drop, Nat.add_zero, List.getElem?_eq_getElem h]
theorem foldK_step (R : List Int) (k : Nat) (h : k < R.length) : foldK R (k + 1) = (foldK R k).set k (AL.fdR R[k]) := by
  unfold foldK
  have hl : ((R.take k).map AL.fdR).length = k := by rw [List.length_map, List.length_take]; omega
  rw [List.set_append_right _ _ (by omega), hl, Nat.sub_self, List.drop_eq_getElem_cons h, List.set_cons_zero, List.take_add_one, List.getElem?_eq_getElem h, List.map_append, List.append_assoc]
  rfl
theorem foldK_same (R : List Int) (k : Nat) (h : k < R.length) (he : AL.fdR R[k] = R[k]) : foldK R (k + 1) = foldK R k := by
  rw [foldK_step R k h, he]
  unfold foldK
  have hl : ((R.take k).map AL.fdR).length = k := by rw [List.length_map, List.length_take]; omega
  rw [List.set_append_right _ _ (by omega), hl, Nat.sub_self, List.drop_eq_getElem_cons h, List.set_cons_zero]

set_option maxHeartbeats 4000000 in
set_option maxRecDepth 1000000 in
theorem foldR_walk (l : List UInt8) (w : World) (hs : l.length ≤ 1000000) (hA : ∀ x ∈ AL.tabs, w.cell? ⟨x.1, x.2.1, none⟩ = some x.2.2) :
    Calls Tryd.prog 19 #[.string ⟨l.toArray⟩] w fun e w' => e = .returned (.string ⟨(AL.txtR ((AL.runeL l).map AL.fdR)).toArray⟩) ∧ Below w.heap.size w w' := by
  have hrl := AL.runeL_len l
  have hbnd : ∀ x ∈ AL.runeL l, 0 ≤ x ∧ x ≤ 1114111 := fun x hx => by have := AL.valid_of (AL.runeL_valid _ l (Nat.le_refl _) x hx); omega
  obtain ⟨R, hR⟩ : ∃ R, AL.runeL l = R := ⟨_, rfl⟩
  have hrw := runes_walk l w hs
  rw [hR] at hrl hbnd hrw ⊢
  clear hR
  go_enter Tryd.func19, Tryd.ntmps19
  go_wp2_with (go_at_call 16; refine hrw.mono ?_)
  rintro e W0 ⟨v, rfl, hown, b0⟩
  have hLt := tabs_lt hA
  rcases hown.2 with ⟨rfl, hn⟩ | ⟨g, cap, cur, rfl, hg, hh, hn, hcap, hsz, htake⟩
  · have hR0 : R = [] := List.length_eq_zero_iff.1 hn
    subst hR0
    go_wp2
    refine wp_loop_rounds 1 ?_
    rw [rounds_succ]
    go_wp2_with (go_at_call 27; refine (AL.ACall.top (text_c [] (by simp)) (tabs_below b0 hLt hA) (vs := [.slice none 0 0]) (.cons (.sliceNil trivial (.inl rfl)) (.nil _))).mono ?_)
    rintro e W2 ⟨u, r, γ', σ', rfl, hrep, hwk, hbl⟩
    have := hwk _ _ _ _ hrep
    cases this
    go_wp2
    go_ret
    exact ⟨rfl, b0.trans (hbl.mono b0.size)⟩
  · go_wp2
    go_loopw [4] (fun i wr => ∃ k : Nat, k ≤ R.length ∧ i = .int .i64 k ∧ wr.ownsRow (w.heap.size + 1) 21 1 (.slice (some ⟨g, 0, none⟩) R.length cap) R.length ((foldK R k).map (Value.int .i32)) ∧ Below w.heap.size w wr)
      (fun i _ => R.length - (intOf i).toNat)
    case atStart => exact ⟨0, Nat.zero_le _, rfl, by simpa [foldK] using hown, b0⟩
    case round =>
      obtain ⟨k, hk, rfl, hown', hbw⟩ := hrel
      by_cases hlt : k < R.length
      · have hc : wr.cell? ⟨g, k, none⟩ = some (.int .i32 R[k]) := by
          have := hown'.cellAt k (by omega)
          rw [List.getElem?_map, foldK_get R k hlt] at this
          exact this
        have hf := hown'.frozenAt k
        have hb := hbnd R[k] (List.getElem_mem hlt)
        have hst := hown'.stored k (.int .i32 (R[k] + 32))
        have hfd : AL.fdR R[k] = if (65 ≤ R[k] ∧ R[k] ≤ 90) ∨ (192 ≤ R[k] ∧ R[k] ≤ 222 ∧ R[k] ≠ 215) then R[k] + 32 else R[k] := rfl
        have hstep := foldK_step R k hlt
        have hsame := foldK_same R k hlt
        generalize R[k] = r at *
        go_wp2
        all_goals
          clear hc hf hcap hsz htake hh hown hrw
          simp only [bne_iff_ne, ne_eq, bne_eq_false_iff_eq] at *
        all_goals first
          | (refine ⟨⟨k + 1, by omega, by simp, ?_, hbw.setCell (by show w.heap.size ≤ g; omega) _⟩, by simp only [intOf]; omega⟩
             have hx : AL.fdR r = r + 32 := by rw [hfd, if_pos (by omega)]
             rw [hstep, hx, List.map_set]
             exact hst.1)
          | (refine ⟨⟨k + 1, by omega, by simp, ?_, hbw⟩, by simp only [intOf]; omega⟩
             have hx : AL.fdR r = r := by rw [hfd, if_neg (by omega)]
             rw [hsame hx]
             exact hown')
      · go_wp2_with (go_at_call 27; refine (AL.ACall.top (text_c (R.map AL.fdR) (by rw [List.length_map]; omega)) (tabs_below hbw hLt hA) (vs := [.slice (some ⟨g, 0, none⟩) R.length cap]) (.cons ?rp (.nil _))).mono ?_)
        case rp =>
          have : foldK R k = R.map AL.fdR := by
            unfold foldK; rw [List.take_of_length_le (by omega), List.drop_of_length_le (by omega), List.append_nil]
          rw [this] at hown'
          have := rep_own (l := R.map AL.fdR) (by rw [List.length_map]; exact hown')
          rw [List.length_map] at this
          exact this
        rintro e W2 ⟨u, r, γ', σ', rfl, hrep, hwk, hbl⟩
        have := hwk _ _ _ _ hrep
        cases this
        go_wp2
        go_ret
        exact ⟨rfl, hbw.trans (hbl.mono hbw.size)⟩
end Go.Proofs
