/-
  The texts Sv of this seat, one behind the other.
-/
import Derived.Test.YtcijjgfadkflmaaDoorZ15
import Derived.Shelf.Strings.BuilderCap
import Derived.Shelf.Strings.MapAny
import Derived.WalkKit
import Derived.BigCall

section
namespace Go.Proofs
open Go.RowKit Go.Shelf
theorem tabs_of {w : World} (h : AL.Known w) : Lib.Utf8Tabs 1 2 w := by
  refine ⟨fun c hc => ?_, fun i hi => ⟨?_, ?_⟩⟩
  · exact h.1 (1, c, .int .u8 (Lib.firstT c)) (by unfold AL.tabs; exact List.mem_append_left _ (List.mem_append_left _ (List.mem_map.2 ⟨c, List.mem_range.2 hc, rfl⟩)))
  · exact h.1 (2, 2 * i, .int .u8 (Lib.accLo i)) (by unfold AL.tabs; exact List.mem_append_left _ (List.mem_append_right _ (List.mem_flatMap.2 ⟨i, List.mem_range.2 hi, by simp⟩)))
  · exact h.1 (2, 2 * i + 1, .int .u8 (Lib.accHi i)) (by unfold AL.tabs; exact List.mem_append_left _ (List.mem_append_right _ (List.mem_flatMap.2 ⟨i, List.mem_range.2 hi, by simp⟩)))
theorem wStringC (B b : Nat) (bs : List Value) (s : ByteArray) (w : World) (h : Lib.IsBuilderF 67 5 B b bs w) (hlen : bs.length + s.size ≤ 140737488355328) (hBw : B ≤ w.heap.size) :
    Calls Tryd.prog 24 #[.pointer (some ⟨b, 0, none⟩), .string s] w fun e w' => e = .returned (.tuple #[.int .i64 s.size, .nilIface]) ∧ (Lib.BuilderAtF 67 5 B b (.pointer (some ⟨b, 0, none⟩)) (bs ++ Lib.strCells s) w' ∧ Below B w w' ∧ Lib.OthersKept 5 (some b) w w') ∧ ∀ v0, w.cell? ⟨b, 1, none⟩ = some v0 → ∃ v1, w'.cell? ⟨b, 1, none⟩ = some v1 ∧ v0.capOf ≤ v1.capOf := Any.Builder_WriteString_kc wLays166 wExtra B b bs s w h hlen hBw
theorem extract_take (l : List UInt8) (p : Nat) : (ByteArray.mk l.toArray).extract 0 p = ⟨(l.take p).toArray⟩ := by
  refine ByteArray.ext ?_
  rw [ByteArray.data_extract]
  refine Array.ext' ?_
  simp
theorem extract_part (l : List UInt8) (p q : Nat) : (ByteArray.mk l.toArray).extract p q = ⟨((l.drop p).take (q - p)).toArray⟩ := by
  refine ByteArray.ext ?_
  rw [ByteArray.data_extract]
  refine Array.ext' ?_
  simp [List.take_drop]
theorem extract_drop (l : List UInt8) (p : Nat) : (ByteArray.mk l.toArray).extract p l.length = ⟨(l.drop p).toArray⟩ := by
  rw [extract_part, List.take_of_length_le (by rw [List.length_drop]; exact Nat.le_refl _)]
theorem dec_call (l : List UInt8) (pos : Nat) (hp : pos < l.length) (W : World) (hA : AL.Known W) : Calls Tryd.prog 50 #[.string ((ByteArray.mk l.toArray).extract pos l.length)] W fun e W' =>
    e = .returned (.tuple #[.int .i32 ((Utf8.decode ⟨l.toArray⟩ pos).1 : Nat), .int .i64 ((Utf8.decode ⟨l.toArray⟩ pos).2 : Nat)]) ∧ Below W.heap.size W W' := by
  have := Tryd.utf8_DecodeRuneInString ((ByteArray.mk l.toArray).extract pos l.length) W (tabs_of hA)
  have hsz : (ByteArray.mk l.toArray).size = l.length := AL.sizeT l
  rw [← hsz, Lib.decodeGo_extract _ _ (by rw [hsz]; exact hp), hsz] at this
  exact this
set_option maxHeartbeats 8000000 in
set_option maxRecDepth 1000000 in
theorem valid_walk (l : List UInt8) (w : World) (hs : l.length ≤ 1000000) (hA : AL.Known w) :
    Calls Tryd.prog 35 #[.string ⟨l.toArray⟩, .string ⟨#[]⟩] w fun e w' => e = .returned (.string ⟨(AL.validT l).toArray⟩) ∧ Below w.heap.size w w' := by
  have hsz : (ByteArray.mk l.toArray).size = l.length := AL.sizeT l
  go_enter Tryd.func35, Tryd.ntmps35
  go_wp2
  go_loopw [0] (fun s0 wr => ∃ (f pos : Nat), s0 = .string ⟨l.toArray⟩ ∧ wr.heap[w.heap.size]? = some (.cells #[.pointer none, .slice none 0 0] 67 (0, 0)) ∧ wr.heap[w.heap.size + 1]? = some (.stringIter ⟨l.toArray⟩ pos) ∧ Below w.heap.size w wr ∧ AL.badT l l.length 0 = AL.badT l f pos ∧ pos ≤ l.length ∧ l.length ≤ f + pos) (fun _ wr => l.length - wr.iterPos (w.heap.size + 1))
  case atStart =>
    refine ⟨l.length, 0, rfl, ?_, ?_, ((Below.refl _ w).alloc (Nat.le_refl _) _).alloc (by simp) _, rfl, by omega, by omega⟩
    · have h1 := heap_alloc_new w (.cells #[.pointer none, .slice none 0 0] 67)
      unfold World.iter
      rw [Lib.alloc_old _ _ _ (by simp)]
      exact h1
    · have := World.iter_heap (w.alloc (.cells #[.pointer none, .slice none 0 0] 67)) ⟨l.toArray⟩ 0
      simpa using this
  case round =>
    obtain ⟨f, pos, rfl, hB0, hit, hbw, hbad, hpl, hfu⟩ := hrel
    have hsz1 : w.heap.size + 1 < wr.heap.size := (Array.getElem?_eq_some_iff.1 hit).1
    by_cases hp : pos < l.length
    · have hp' : pos < (ByteArray.mk l.toArray).size := by rw [AL.sizeT]; exact hp
      have hnx : ∀ ty, (Instr.next (.pointer (some ⟨w.heap.size + 1, 0, none⟩)) true ty).run Tryd.prog wr = _ := fun ty => Lib.run_next_any_at wr (w.heap.size + 1) ⟨l.toArray⟩ pos ty hit hp'
      have hwd := AL.decW_pos hp
      have hwl := AL.decW_le hp
      have er : AL.decR l pos = ((Utf8.decode ⟨l.toArray⟩ pos).1 : Int) := rfl
      have ew : AL.decW l pos = (Utf8.decode ⟨l.toArray⟩ pos).2 := rfl
      by_cases hr : (Utf8.decode ⟨l.toArray⟩ pos).1 = 65533
      · go_wp2_with (go_at_call 50; refine (dec_call l pos hp _ (hA.below (Lib.below_iterAt hbw (k := w.heap.size + 1) (by omega) ⟨l.toArray⟩ _))).mono ?_)
        rintro e W1 ⟨rfl, b1⟩
        by_cases h1 : (Utf8.decode ⟨l.toArray⟩ pos).2 = 1
        · have hit2 := Lib.iterAt_heap wr (w.heap.size + 1) ⟨l.toArray⟩ pos (pos + (Utf8.decode ⟨l.toArray⟩ pos).2) hit
          have hbw2 := Lib.below_iterAt hbw (k := w.heap.size + 1) (by omega) ⟨l.toArray⟩ (pos + (Utf8.decode ⟨l.toArray⟩ pos).2)
          have hB2 : (wr.iterAt (w.heap.size + 1) ⟨l.toArray⟩ (pos + (Utf8.decode ⟨l.toArray⟩ pos).2)).heap[w.heap.size]? = some (.cells #[.pointer none, .slice none 0 0] 67 (0, 0)) := by
            rw [Lib.iterAt_other _ _ _ _ _ (by omega)]; exact hB0
          generalize wr.iterAt (w.heap.size + 1) ⟨l.toArray⟩ (pos + (Utf8.decode ⟨l.toArray⟩ pos).2) = W0 at *
          have hz0 : w.heap.size < W0.heap.size := (Array.getElem?_eq_some_iff.1 hB2).1
          have hB1 : W1.heap[w.heap.size]? = some (.cells #[.pointer none, .slice none 0 0] 67 (0, 0)) := by rw [b1.block _ hz0]; exact hB2
          have hb1 := hbw2.trans (b1.mono (by omega))
          have hv : AL.validT l = l.take pos ++ AL.cleanT (l.drop pos) (l.drop pos).length 0 := by
            have : AL.badT l l.length 0 = some pos := by
              rw [hbad]
              obtain ⟨g, rfl⟩ : ∃ g, f = g + 1 := ⟨f - 1, by omega⟩
              rw [AL.badT, if_pos hp, if_pos ⟨by rw [er, hr]; rfl, by rw [ew, h1]⟩]
            unfold AL.validT; rw [this]
          go_wp2_with (go_at_call 23; refine (Tryd.Builder_Grow_fresh_cap w.heap.size w.heap.size l.length W1 (Nat.le_refl _) hB1 hb1.size (by omega)).mono ?_)
          rintro e W2 ⟨rfl, ⟨hG, b2⟩, cp, cc, hcp, hcc⟩
          have hb2 := hb1.trans b2
          go_wp2_with (go_at_call 24; refine (wStringC w.heap.size w.heap.size [] _ W2 (.inr (Lib.BuilderAtF.of hG)) (by rw [extract_take, AL.sizeT, List.length_take]; simp; omega) hb2.size).mono ?_)
          rintro e W3 ⟨rfl, ⟨hS, b3, k3⟩, hcap⟩
          obtain ⟨v1, hv1, hle⟩ := hcap _ hcp
          have hb3 := hb2.trans b3
          obtain ⟨q1, n1, c1, rfl, hc1⟩ : ∃ q n c, v1 = .slice q n c ∧ 0 < c := by
            have : 0 < v1.capOf := by
              have : cc ≤ v1.capOf := hle
              omega
            cases v1 <;> simp [Value.capOf] at this
            exact ⟨_, _, _, rfl, this⟩
          go_wp2_with (go_at_call 51; refine (Tryd.Builder_Cap_cell w.heap.size q1 n1 c1 W3 hv1).mono ?_)
          rintro e W4 ⟨rfl, rfl⟩
          have hcz : (((c1 : Nat) : Int) == 0) = false := beq_eq_false_iff_ne.2 (by omega)
          rw [extract_take] at hS
          have hS' : Lib.IsBuilderF 67 5 w.heap.size w.heap.size (Lib.byteCells (l.take pos)) W4 := .inr hS
          go_wp2_with fail
          rw [extract_drop]
          have hml : pos + (l.drop pos).length = l.length := by rw [List.length_drop]; omega
          have htl : (l.take pos).length = pos := by rw [List.length_take]; omega
          generalize hm : l.drop pos = m at *
          generalize hh : l.take pos = hd at *
          have hmz : (ByteArray.mk m.toArray).size = m.length := AL.sizeT m
          go_loopw [10, 11] (fun s10 s11 wx => ∃ (inv : Bool) (i f2 : Nat) (acc : List UInt8), s10 = .bool inv ∧ s11 = .int .i64 (i : Int) ∧ Lib.IsBuilderF 67 5 w.heap.size w.heap.size (Lib.byteCells acc) wx ∧ Below w.heap.size w wx ∧ AL.validT l = acc ++ AL.cleanT m f2 i ∧ i ≤ m.length ∧ m.length ≤ f2 + i ∧ acc.length ≤ pos + i) (fun _ s11 _ => m.length - (intOf s11).toNat)
          case atStart => exact ⟨false, 0, m.length, hd, rfl, rfl, hS', hb3, hv, by omega, by omega, by omega⟩
          case round =>
            obtain ⟨inv, i, f2, acc, rfl, rfl, hI, hbx, hval, hil, hfl, hal⟩ := hrel
            have hAx := hA.below hbx
            by_cases hi : i < m.length
            · have hwd2 := AL.decW_pos hi
              have hwl2 := AL.decW_le hi
              have ew2 : AL.decW m i = (Utf8.decode ⟨m.toArray⟩ i).2 := rfl
              obtain ⟨g2, rfl⟩ : ∃ g, f2 = g + 1 := ⟨f2 - 1, by omega⟩
              rw [AL.cleanT, if_pos hi] at hval
              have hi' : i < (ByteArray.mk m.toArray).size := by rw [hmz]; exact hi
              have hbt : (ByteArray.mk m.toArray)[i]'hi' = m.getD i 0 := byteAt m i hi hi'
              have e1 : ((ByteArray.mk m.toArray)[i]'hi').toNat = (m.getD i 0).toNat := by rw [hbt]
              have e2 : (m[i]'hi).toNat = (m.getD i 0).toNat := by rw [← hbt]; rfl
              go_wp2_with fail
              · have hc : (m.getD i 0).toNat < 128 := by omega
                rw [if_pos hc] at hval
                refine (wByte w.heap.size w.heap.size _ _ _ hI (by rw [Lib.byteCells_length]; omega) hbx.size).mono ?_
                rintro e W5 ⟨rfl, h5, b5, k5⟩
                go_wp2
                go_roundw
                case rel =>
                  refine ⟨false, i + 1, g2, acc ++ [m.getD i 0], rfl, by simp, ?_, hbx.trans b5, ?_, by omega, by omega, by rw [List.length_append, List.length_singleton]; omega⟩
                  · rw [Lib.byteCells_append]
                    exact Or.inr h5
                  · rw [hval]; simp
                case measure => simp [intOf]; omega
              · have hc : ¬ (m.getD i 0).toNat < 128 := by omega
                rw [if_neg hc] at hval
                refine (dec_call m i hi _ hAx).mono ?_
                rintro e W5 ⟨rfl, b5⟩
                have hb5 := hbx.trans (b5.mono hbx.size)
                have hI5 := Lib.IsBuilderF.below hI b5
                by_cases hw1 : (Utf8.decode ⟨m.toArray⟩ i).2 = 1
                · rw [ew2, if_pos hw1] at hval
                  cases inv with
                  | true =>
                    go_wp2
                    go_roundw
                    case rel => exact ⟨true, i + 1, g2, acc, rfl, by simp, hI5, hb5, hval, by omega, by omega, by omega⟩
                    case measure => simp [intOf]; omega
                  | false =>
                    go_wp2_with (go_at_call 24; refine (wString w.heap.size w.heap.size _ _ _ hI5 (by rw [Lib.byteCells_length]; have : (ByteArray.mk #[]).size = 0 := rfl; omega) hb5.size).mono ?_)
                    rintro e W6 ⟨rfl, h6, b6, k6⟩
                    go_wp2
                    go_roundw
                    case rel => exact ⟨true, i + 1, g2, acc, rfl, by simp, Or.inr (by simpa [Lib.strCells] using h6), hb5.trans b6, hval, by omega, by omega, by omega⟩
                    case measure => simp [intOf]; omega
                · rw [ew2, if_neg hw1] at hval
                  go_wp2_with (go_at_call 24; refine (wString w.heap.size w.heap.size _ _ _ hI5 (by rw [Lib.byteCells_length, extract_part, AL.sizeT, List.length_take, List.length_drop]; omega) hb5.size).mono ?_)
                  rintro e W6 ⟨rfl, h6, b6, k6⟩
                  go_wp2
                  go_roundw
                  case rel =>
                    refine ⟨false, i + (Utf8.decode ⟨m.toArray⟩ i).2, g2, acc ++ (m.drop i).take ((Utf8.decode ⟨m.toArray⟩ i).2), rfl, by simp, ?_, hb5.trans b6, ?_, by omega, by omega, by rw [List.length_append, List.length_take]; omega⟩
                    · rw [Lib.byteCells_append]
                      rw [extract_part, show i + (Utf8.decode ⟨m.toArray⟩ i).2 - i = (Utf8.decode ⟨m.toArray⟩ i).2 by omega] at h6
                      exact Or.inr h6
                    · rw [hval]; simp
                  case measure => simp [intOf]; omega
            · have hcl : AL.cleanT m f2 i = [] := by
                cases f2 with
                | zero => rfl
                | succ g => rw [AL.cleanT, if_neg hi]
              rw [hcl, List.append_nil] at hval
              go_wp2_with (go_at_call 25; refine (wStr w.heap.size w.heap.size acc _ hI hbx.size).mono ?_)
              rintro e W5 ⟨rfl, h5, b5, k5⟩
              go_wp2
              go_ret
              rw [hval]
              exact ⟨rfl, hbx.trans b5⟩
        · have hit2 := Lib.iterAt_heap wr (w.heap.size + 1) ⟨l.toArray⟩ pos (pos + (Utf8.decode ⟨l.toArray⟩ pos).2) hit
          have hbw2 := Lib.below_iterAt hbw (k := w.heap.size + 1) (by omega) ⟨l.toArray⟩ (pos + (Utf8.decode ⟨l.toArray⟩ pos).2)
          have hB2 : (wr.iterAt (w.heap.size + 1) ⟨l.toArray⟩ (pos + (Utf8.decode ⟨l.toArray⟩ pos).2)).heap[w.heap.size]? = some (.cells #[.pointer none, .slice none 0 0] 67 (0, 0)) := by
            rw [Lib.iterAt_other _ _ _ _ _ (by omega)]; exact hB0
          generalize wr.iterAt (w.heap.size + 1) ⟨l.toArray⟩ (pos + (Utf8.decode ⟨l.toArray⟩ pos).2) = W0 at *
          have hz0 : w.heap.size < W0.heap.size := (Array.getElem?_eq_some_iff.1 hB2).1
          have hz1 : w.heap.size + 1 < W0.heap.size := (Array.getElem?_eq_some_iff.1 hit2).1
          have hB1 : W1.heap[w.heap.size]? = some (.cells #[.pointer none, .slice none 0 0] 67 (0, 0)) := by rw [b1.block _ hz0]; exact hB2
          have hit1 : W1.heap[w.heap.size + 1]? = some (.stringIter ⟨l.toArray⟩ (pos + (Utf8.decode ⟨l.toArray⟩ pos).2)) := by rw [b1.block _ hz1]; exact hit2
          obtain ⟨g, rfl⟩ : ∃ g, f = g + 1 := ⟨f - 1, by omega⟩
          rw [AL.badT, if_pos hp, if_neg (by rw [ew]; exact fun h => h1 h.2)] at hbad
          go_wp2
          go_roundw
          case rel => exact ⟨g, pos + (Utf8.decode ⟨l.toArray⟩ pos).2, rfl, hB1, hit1, hbw2.trans (b1.mono (by omega)), hbad, by omega, by omega⟩
          case measure =>
            simp only [World.iterPos, hit1, hit]
            omega
      · have hit2 := Lib.iterAt_heap wr (w.heap.size + 1) ⟨l.toArray⟩ pos (pos + (Utf8.decode ⟨l.toArray⟩ pos).2) hit
        have hbw2 := Lib.below_iterAt hbw (k := w.heap.size + 1) (by omega) ⟨l.toArray⟩ (pos + (Utf8.decode ⟨l.toArray⟩ pos).2)
        have hB2 : (wr.iterAt (w.heap.size + 1) ⟨l.toArray⟩ (pos + (Utf8.decode ⟨l.toArray⟩ pos).2)).heap[w.heap.size]? = some (.cells #[.pointer none, .slice none 0 0] 67 (0, 0)) := by
          rw [Lib.iterAt_other _ _ _ _ _ (by omega)]; exact hB0
        obtain ⟨g, rfl⟩ : ∃ g, f = g + 1 := ⟨f - 1, by omega⟩
        rw [AL.badT, if_pos hp, if_neg (by rw [er]; exact fun h => hr (by have := h.1; omega))] at hbad
        go_wp2
        go_roundw
        case rel => exact ⟨g, pos + (Utf8.decode ⟨l.toArray⟩ pos).2, rfl, hB2, hit2, hbw2, hbad, by omega, by omega⟩
        case measure =>
          simp only [World.iterPos, hit2, hit]
          omega
    · have hp' : ¬ pos < (ByteArray.mk l.toArray).size := by rw [AL.sizeT]; exact hp
      have hnx : ∀ ty, (Instr.next (.pointer (some ⟨w.heap.size + 1, 0, none⟩)) true ty).run Tryd.prog wr = _ := fun ty => Lib.run_next_end_at wr (w.heap.size + 1) ⟨l.toArray⟩ pos ty hit hp'
      have hcl : AL.badT l f pos = none := by
        cases f with
        | zero => rfl
        | succ g => rw [AL.badT, if_neg hp]
      rw [hcl] at hbad
      have hc1 : wr.cell? ⟨w.heap.size, 1, none⟩ = some (.slice none 0 0) := by simp [World.cell?, hB0]
      have hv : AL.validT l = l := by unfold AL.validT; rw [hbad]
      go_wp2_with (go_at_call 51; refine (Tryd.Builder_Cap_cell w.heap.size none 0 0 _ hc1).mono ?_)
      rintro e W4 ⟨rfl, rfl⟩
      go_wp2
      go_ret
      rw [hv]
      exact ⟨rfl, hbw⟩
end Go.Proofs
namespace Go.Proofs.YtcijjgfadkflmaaDoor
open Go.AL Go.RowKit
theorem valid_ok : EntOk Tryd.prog validE := by
  intro xs σ; simp only [validE]; split
  · rename_i s
    intro hc
    have hc : s.length ≤ 1000000 := by simpa [lenL] using hc
    refine PCall.ofBelowK fun γ w vs hA hr => ?_
    obtain ⟨u, v, rfl, q1, q2⟩ := repL2 hr
    have q1 := repStr q1
    have q2 := repStr q2
    subst q1; subst q2
    exact (valid_walk s w hc hA).mono fun e w' ⟨h1, h2⟩ => ⟨_, h1, .str _ _, h2⟩
  · trivial
end Go.Proofs.YtcijjgfadkflmaaDoor
end
