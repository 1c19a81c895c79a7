/-
  Seat 02 (value): Unquote, walked with the kit.
-/
import Derived.Test.YteohhklblbinbaaDoorVk
import Derived.Shelf.Strings.MapGrows
import Derived.Shelf.Strings.BuilderCap
namespace Go.AL
/-- Read rune by rune: what stands between the marks, or nothing. -/
def parR : Bool → List Int → Option Txt
  | false, [] => some []
  | true, [] => none
  | b, r :: l =>
    if b = true ∧ r = 110 then (parR false l).map fun t => 10 :: t
    else if b = false ∧ r = 92 then parR true l
    else if b ≠ decide (r = 34 ∨ r = 92) then none
    else (parR false l).map fun t => encA r ++ t
def unqL (l : Txt) : Option Txt :=
  if l.length < 2 ∨ l.getD 0 0 ≠ 34 ∨ l.getD (l.length - 1) 0 ≠ 34 then none
  else match parR false (runeL (remT l 1)) with
    | none => none
    | some t => if quoT t = l then some t else none
end Go.AL
namespace Go.Proofs
open Go.RowKit
def unqRes : Option (List UInt8) → Value
  | some t => .tuple #[.string ⟨t.toArray⟩, .int .i64 0]
  | none => .tuple #[.string ⟨#[]⟩, .int .i64 10]
theorem extract_remT (l : List UInt8) : (ByteArray.mk l.toArray).extract 1 (l.length - 1) = ⟨(AL.remT l 1).toArray⟩ := by
  refine ByteArray.ext ?_
  rw [ByteArray.data_extract]
  refine Array.ext' ?_
  simp [AL.remT]
theorem unqL_bad {l : List UInt8} (h : l.length < 2 ∨ l.getD 0 0 ≠ 34 ∨ l.getD (l.length - 1) 0 ≠ 34) : AL.unqL l = none := by
  unfold AL.unqL; rw [if_pos h]
theorem unqL_none {l : List UInt8} (h : AL.parR false (AL.runeL (AL.remT l 1)) = none) : AL.unqL l = none := by
  unfold AL.unqL; rw [h]; split <;> rfl
theorem unqL_ne {l t : List UInt8} (h : AL.parR false (AL.runeL (AL.remT l 1)) = some t) (hq : AL.quoT t ≠ l) : AL.unqL l = none := by
  unfold AL.unqL; rw [h]; split
  · rfl
  · exact if_neg hq
theorem unqL_eq {l t : List UInt8} (h0 : ¬ (l.length < 2 ∨ l.getD 0 0 ≠ 34 ∨ l.getD (l.length - 1) 0 ≠ 34)) (h : AL.parR false (AL.runeL (AL.remT l 1)) = some t) (hq : AL.quoT t = l) : AL.unqL l = some t := by
  unfold AL.unqL; rw [h, if_neg h0]; exact if_pos hq
theorem byteAt (l : List UInt8) (i : Nat) (h : i < l.length) (hz : i < (ByteArray.mk l.toArray).size) : (ByteArray.mk l.toArray)[i]'hz = l.getD i 0 := by
  have : (ByteArray.mk l.toArray)[i]'hz = l[i] := rfl
  rw [this]; simp [List.getD, List.getElem?_eq_getElem h]
theorem u8_34 {c : UInt8} (h : (c.toNat : Int) = 34) : c = 34 := UInt8.toNat_inj.1 (by have : (34 : UInt8).toNat = 34 := rfl; omega)
set_option maxHeartbeats 8000000 in
set_option maxRecDepth 1000000 in
theorem unquote_walk (l : List UInt8) (w : World) (hs : l.length ≤ 1000000) :
    Calls Tryd.prog 28 #[.string ⟨l.toArray⟩] w fun e w' => e = .returned (unqRes (AL.unqL l)) ∧ Below w.heap.size w w' := by
  have hsz : (ByteArray.mk l.toArray).size = l.length := AL.sizeT l
  go_enter Tryd.func28, Tryd.ntmps28
  by_cases h2 : l.length < 2
  · go_wp2
    go_ret2
    rw [unqL_bad (.inl h2)]
    exact ⟨rfl, Below.refl _ _⟩
  · go_wp2
    · rename_i f1 f2 f3 f4 f5
      go_ret2
      rw [unqL_bad (.inr (.inr ?_))]
      · exact ⟨rfl, Below.refl _ _⟩
      · rw [← byteAt l _ (by omega) (by omega)]
        intro h9
        rw [h9] at f5
        rcases f5 with f5 | f5
        · omega
        · exact absurd f5 (by decide)
    · rename_i f1 f2 f3 f4 f5 KK aa
      have hf3 := u8_34 f3
      have hf5 := u8_34 (by have := f5.2; simpa using this)
      rw [byteAt l _ (by omega) (by omega)] at hf3 hf5
      have hgd : ¬ (l.length < 2 ∨ l.getD 0 0 ≠ 34 ∨ l.getD (l.length - 1) 0 ≠ 34) := by
        rw [hf3, hf5]; simp [h2]
      rw [extract_remT]
      clear f5 f3
      have hml : (AL.remT l 1).length ≤ l.length := by unfold AL.remT; rw [List.length_take, List.length_drop]; omega
      generalize hm : AL.remT l 1 = m at *
      go_loopw [5] (fun s5 wr => ∃ (back : Bool) (pos : Nat) (acc : List UInt8), s5 = .bool back ∧ Lib.IsBuilderF 74 5 w.heap.size w.heap.size (Lib.byteCells acc) wr ∧ wr.heap[w.heap.size + 1]? = some (.stringIter ⟨m.toArray⟩ pos) ∧ Below w.heap.size w wr ∧ AL.parR false (AL.runeL m) = (AL.parR back (AL.restR m pos)).map (fun t => acc ++ t) ∧ acc.length ≤ 4 * pos ∧ pos ≤ m.length) (fun _ wr => m.length - wr.iterPos (w.heap.size + 1))
      case atStart =>
        refine ⟨false, 0, [], rfl, (Lib.IsBuilderF.of (Lib.fresh_isBuilder 74 5 w)).alloc _, ?_, ((Below.refl _ w).alloc (Nat.le_refl _) _).alloc (by simp) _, ?_, by simp, by omega⟩
        · have := World.iter_heap (w.alloc (.cells #[.pointer none, .slice none 0 0] 74)) ⟨m.toArray⟩ 0
          simpa using this
        · show _ = (AL.parR false (AL.runeL m)).map _
          simp
      case round =>
        obtain ⟨back, pos, acc, rfl, hI, hit, hbw, hpar, hal, hpl⟩ := hrel
        have hsz1 : w.heap.size + 1 < wr.heap.size := (Array.getElem?_eq_some_iff.1 hit).1
        by_cases hp : pos < m.length
        · have hp' : pos < (ByteArray.mk m.toArray).size := by rw [AL.sizeT]; exact hp
          have hnx : ∀ ty, (Instr.next (.pointer (some ⟨w.heap.size + 1, 0, none⟩)) true ty).run Tryd.prog wr = _ := fun ty => Lib.run_next_any_at wr (w.heap.size + 1) ⟨m.toArray⟩ pos ty hit hp'
          have hwd := AL.decW_pos hp
          have hwl := AL.decW_le hp
          have hd1 := decode_le ⟨m.toArray⟩ pos
          have hI2 := hI.iterAt hit (pos + (Utf8.decode ⟨m.toArray⟩ pos).2)
          have hit2 := Lib.iterAt_heap wr (w.heap.size + 1) ⟨m.toArray⟩ pos (pos + (Utf8.decode ⟨m.toArray⟩ pos).2) hit
          have hbw2 := Lib.below_iterAt hbw (k := w.heap.size + 1) (by omega) ⟨m.toArray⟩ (pos + (Utf8.decode ⟨m.toArray⟩ pos).2)
          have hsz2 : w.heap.size ≤ (wr.iterAt (w.heap.size + 1) ⟨m.toArray⟩ (pos + (Utf8.decode ⟨m.toArray⟩ pos).2)).heap.size := by rw [Lib.iterAt_size]; omega
          rw [AL.restR_step hp] at hpar
          have er : AL.decR m pos = ((Utf8.decode ⟨m.toArray⟩ pos).1 : Int) := rfl
          have ew : AL.decW m pos = (Utf8.decode ⟨m.toArray⟩ pos).2 := rfl
          cases back with
          | true =>
            by_cases h110 : (Utf8.decode ⟨m.toArray⟩ pos).1 = 110
            · rw [AL.parR, if_pos ⟨rfl, by omega⟩] at hpar
              go_wp2_with (go_at_call 42; refine (wByte w.heap.size w.heap.size _ 10 _ hI2 (by rw [Lib.byteCells_length]; omega) hsz2).mono ?_)
              rintro e W1 ⟨rfl, h1, b1, k1⟩
              go_wp2
              go_roundw
              case rel =>
                refine ⟨false, pos + (Utf8.decode ⟨m.toArray⟩ pos).2, acc ++ [10], rfl, ?_, k1.iter hit2 (by omega), hbw2.trans b1, ?_, ?_, by omega⟩
                · rw [Lib.byteCells_append]; exact Or.inr h1
                · rw [hpar, Option.map_map, ← ew]
                  congr 1
                  funext t; simp
                · rw [List.length_append, List.length_singleton]; omega
              case measure =>
                simp only [World.iterPos, k1.iter hit2 (by omega), hit]
                omega
            · rw [AL.parR, if_neg (by omega), if_neg (by simp)] at hpar
              by_cases h34 : (Utf8.decode ⟨m.toArray⟩ pos).1 = 34
              · rw [if_neg (by simp [er, h34])] at hpar
                go_wp2_with (go_at_call 43; refine (wRune w.heap.size w.heap.size _ _ (by omega) (by omega) _ hI2 (by rw [Lib.byteCells_length]; omega) hsz2).mono ?_)
                rintro e W1 ⟨rfl, h1, b1, k1⟩
                go_wp2
                go_roundw
                case rel =>
                  refine ⟨false, pos + (Utf8.decode ⟨m.toArray⟩ pos).2, acc ++ Lib.encodeRune (Utf8.decode ⟨m.toArray⟩ pos).1, rfl, ?_, k1.iter hit2 (by omega), hbw2.trans b1, ?_, ?_, by omega⟩
                  · rw [Lib.byteCells_append, Lib.byteCells_encodeRune]; exact Or.inr (by first | exact h1 | (simp only [h34]; exact h1) | (simp only [h92]; exact h1))
                  · rw [encodeRune_A, hpar, Option.map_map, ← ew]
                    congr 1
                    funext t; simp [er]
                  · have := AL.encA_len (Utf8.decode ⟨m.toArray⟩ pos).1
                    rw [List.length_append, encodeRune_A]; omega
                case measure =>
                  simp only [World.iterPos, k1.iter hit2 (by omega), hit]
                  omega
              · by_cases h92 : (Utf8.decode ⟨m.toArray⟩ pos).1 = 92
                · rw [if_neg (by simp [er, h92])] at hpar
                  go_wp2_with (go_at_call 43; refine (wRune w.heap.size w.heap.size _ _ (by omega) (by omega) _ hI2 (by rw [Lib.byteCells_length]; omega) hsz2).mono ?_)
                  rintro e W1 ⟨rfl, h1, b1, k1⟩
                  go_wp2
                  go_roundw
                  case rel =>
                    refine ⟨false, pos + (Utf8.decode ⟨m.toArray⟩ pos).2, acc ++ Lib.encodeRune (Utf8.decode ⟨m.toArray⟩ pos).1, rfl, ?_, k1.iter hit2 (by omega), hbw2.trans b1, ?_, ?_, by omega⟩
                    · rw [Lib.byteCells_append, Lib.byteCells_encodeRune]; exact Or.inr (by first | exact h1 | (simp only [h34]; exact h1) | (simp only [h92]; exact h1))
                    · rw [encodeRune_A, hpar, Option.map_map, ← ew]
                      congr 1
                      funext t; simp [er]
                    · have := AL.encA_len (Utf8.decode ⟨m.toArray⟩ pos).1
                      rw [List.length_append, encodeRune_A]; omega
                  case measure =>
                    simp only [World.iterPos, k1.iter hit2 (by omega), hit]
                    omega
                · rw [if_pos (by have : ¬ (AL.decR m pos = 34 ∨ AL.decR m pos = 92) := by omega
                                 simp [this])] at hpar
                  have i34 : ¬ (((Utf8.decode ⟨m.toArray⟩ pos).1 : Nat) : Int) = 34 := by omega
                  have i92 : ¬ (((Utf8.decode ⟨m.toArray⟩ pos).1 : Nat) : Int) = 92 := by omega
                  go_wp2
                  · go_ret2
                    rw [unqL_none (by rw [hm, hpar]; rfl)]
                    exact ⟨rfl, hbw2⟩
                  all_goals
                    exfalso
                    have key : ¬ ((!((((Utf8.decode ⟨m.toArray⟩ pos).1 : Nat) : Int) == 34)) = false ∨ (!((((Utf8.decode ⟨m.toArray⟩ pos).1 : Nat) : Int) == 92)) = false) := by simp [i34, i92]
                    exact key (by assumption)
          | false =>
            rw [AL.parR, if_neg (by simp)] at hpar
            by_cases h92 : (Utf8.decode ⟨m.toArray⟩ pos).1 = 92
            · rw [if_pos ⟨rfl, by omega⟩] at hpar
              go_wp2
              go_roundw
              case rel =>
                refine ⟨true, pos + (Utf8.decode ⟨m.toArray⟩ pos).2, acc, rfl, hI2, hit2, hbw2, ?_, by omega, by omega⟩
                rw [hpar, ← ew]
              case measure =>
                simp only [World.iterPos, hit2, hit]
                omega
            · rw [if_neg (by omega)] at hpar
              by_cases h34 : (Utf8.decode ⟨m.toArray⟩ pos).1 = 34
              · rw [if_pos (by simp [er, h34])] at hpar
                go_wp2
                go_ret2
                rw [unqL_none (by rw [hm, hpar]; rfl)]
                exact ⟨rfl, hbw2⟩
              · rw [if_neg (by have : ¬ (AL.decR m pos = 34 ∨ AL.decR m pos = 92) := by omega
                               simp [this])] at hpar
                go_wp2_with (go_at_call 43; refine (wRune w.heap.size w.heap.size _ _ (by omega) (by omega) _ hI2 (by rw [Lib.byteCells_length]; omega) hsz2).mono ?_)
                rintro e W1 ⟨rfl, h1, b1, k1⟩
                go_wp2
                go_roundw
                case rel =>
                  refine ⟨false, pos + (Utf8.decode ⟨m.toArray⟩ pos).2, acc ++ Lib.encodeRune (Utf8.decode ⟨m.toArray⟩ pos).1, rfl, ?_, k1.iter hit2 (by omega), hbw2.trans b1, ?_, ?_, by omega⟩
                  · rw [Lib.byteCells_append, Lib.byteCells_encodeRune]; exact Or.inr (by first | exact h1 | (simp only [h34]; exact h1) | (simp only [h92]; exact h1))
                  · rw [encodeRune_A, hpar, Option.map_map, ← ew]
                    congr 1
                    funext t; simp [er]
                  · have := AL.encA_len (Utf8.decode ⟨m.toArray⟩ pos).1
                    rw [List.length_append, encodeRune_A]; omega
                case measure =>
                  simp only [World.iterPos, k1.iter hit2 (by omega), hit]
                  omega
        · have hp' : ¬ pos < (ByteArray.mk m.toArray).size := by rw [AL.sizeT]; exact hp
          have hnx : ∀ ty, (Instr.next (.pointer (some ⟨w.heap.size + 1, 0, none⟩)) true ty).run Tryd.prog wr = _ := fun ty => Lib.run_next_end_at wr (w.heap.size + 1) ⟨m.toArray⟩ pos ty hit hp'
          rw [AL.restR_end (by omega)] at hpar
          cases back with
          | true =>
            go_wp2
            go_ret2
            rw [unqL_none (by rw [hm, hpar]; rfl)]
            exact ⟨rfl, hbw⟩
          | false =>
            have hpar : AL.parR false (AL.runeL m) = some acc := by rw [hpar]; simp [AL.parR]
            go_wp2_with (go_at_call 44; refine (wStr w.heap.size w.heap.size acc _ hI hbw.size).mono ?_)
            rintro e W1 ⟨rfl, h1, b1, k1⟩
            have hb1 := hbw.trans b1
            go_wp2_with (go_at_call 30; refine (quote_walk acc _ (by omega)).mono ?_)
            rintro e W2 ⟨rfl, b2⟩
            have hb2 := hb1.trans (b2.mono hb1.size)
            by_cases hq : AL.quoT acc = l
            · go_wp2_with (go_at_call 44; refine (wStr w.heap.size w.heap.size acc _ (Lib.IsBuilderF.below h1 b2) hb2.size).mono ?_)
              rintro e W3 ⟨rfl, _, b3, _⟩
              go_wp2
              go_ret2
              have hm' : AL.parR false (AL.runeL (AL.remT l 1)) = some acc := by rw [hm]; exact hpar
              rw [unqL_eq hgd hm' hq]
              exact ⟨rfl, hb2.trans b3⟩
            · have hm' : AL.parR false (AL.runeL (AL.remT l 1)) = some acc := by rw [hm]; exact hpar
              go_wp2
              · go_ret2
                rw [unqL_ne hm' hq]
                exact ⟨rfl, hb2⟩
              all_goals
                exfalso
                have key : ¬ ((!(AL.quoT acc == l)) = false) := by simp [hq]
                exact key (by assumption)
    · rename_i f1 f2 f3
      go_ret2
      rw [unqL_bad (.inr (.inl ?_))]
      · exact ⟨rfl, Below.refl _ _⟩
      · rw [← byteAt l _ (by omega) (by omega)]
        intro h9
        rw [h9] at f3
        exact f3 rfl
end Go.Proofs
