/-
  The texts Vk, Vj of this seat, one behind the other.
-/
import Derived.Test.YtcijjgfadkflmaaDoorZ5
import Derived.Shelf.Strings.BuilderK
import Derived.Shelf.Strings.BuilderRune
import Derived.Test.YtcijjgfadkflmaaDoorProg
import Derived.WalkKit
import Derived.BigCall
import Derived.Shelf.Strings.MapGrows
import Derived.Shelf.Strings.BuilderCap

section
namespace Go.Proofs
open Go.RowKit Go.Shelf
def laysB_ren : Go.Shelf.Ren := ⟨fun | 166 => 24 | 168 => 70 | 167 => 52 | 169 => 25 | 240 => 45 | 242 => 79 | 276 => 60 | 278 => 87 | n => n, fun | 9 => 9 | 72 => 67 | 0 => 0 | 4 => 4 | 3 => 3 | 21 => 21 | 76 => 71 | 5 => 5 | 75 => 70 | 70 => 65 | 20 => 20 | 37 => 42 | 127 => 87 | 46 => 115 | 164 => 102 | 51 => 122 | 80 => 57 | n => n, fun | n => n⟩
theorem wLays166 : Go.Proofs.Lays.n166 Tryd.prog laysB_ren := {
  mixed := by kernel_rfl
  f166 := Tryd.func24.trans (congrArg some (by kernel_rfl))
  f240 := Tryd.func45.trans (congrArg some (by kernel_rfl))
  f276 := Tryd.func60.trans (congrArg some (by kernel_rfl))
  t0 := Tryd.underlying0
  a0 := Tryd.isAgg0
  z0 := Tryd.sizeOf0
  v0 := Tryd.zeroValue0
  t3 := Tryd.underlying3
  a3 := Tryd.isAgg3
  z3 := Tryd.sizeOf3
  v3 := Tryd.zeroValue3
  t4 := Tryd.underlying4
  a4 := Tryd.isAgg4
  z4 := Tryd.sizeOf4
  v4 := Tryd.zeroValue4
  t9 := Tryd.underlying9
  a9 := Tryd.isAgg9
  z9 := Tryd.sizeOf9
  v9 := Tryd.zeroValue9
  t20 := Tryd.underlying20
  a20 := Tryd.isAgg20
  z20 := Tryd.sizeOf20
  v20 := Tryd.zeroValue20
  t37 := Tryd.underlying42
  a37 := Tryd.isAgg42
  z37 := Tryd.sizeOf42
  v37 := Tryd.zeroValue42
  t70 := Tryd.underlying65
  a70 := Tryd.isAgg65
  z70 := Tryd.sizeOf65
  v70 := Tryd.zeroValue65
  t72 := Tryd.underlying67
  a72 := Tryd.isAgg67
  z72 := Tryd.sizeOf67
  v72 := Tryd.zeroValue67
  t75 := Tryd.underlying70
  a75 := Tryd.isAgg70
  z75 := Tryd.sizeOf70
  v75 := Tryd.zeroValue70
  t164 := Tryd.underlying102
  a164 := Tryd.isAgg102
  z164 := Tryd.sizeOf102
  v164 := Tryd.zeroValue102 }
theorem wLays167 : Go.Proofs.Lays.n167 Tryd.prog laysB_ren := {
  mixed := by kernel_rfl
  f167 := Tryd.func52.trans (congrArg some (by kernel_rfl))
  f240 := Tryd.func45.trans (congrArg some (by kernel_rfl))
  f276 := Tryd.func60.trans (congrArg some (by kernel_rfl))
  t0 := Tryd.underlying0
  a0 := Tryd.isAgg0
  z0 := Tryd.sizeOf0
  v0 := Tryd.zeroValue0
  t4 := Tryd.underlying4
  a4 := Tryd.isAgg4
  z4 := Tryd.sizeOf4
  v4 := Tryd.zeroValue4
  t5 := Tryd.underlying5
  a5 := Tryd.isAgg5
  z5 := Tryd.sizeOf5
  v5 := Tryd.zeroValue5
  t9 := Tryd.underlying9
  a9 := Tryd.isAgg9
  z9 := Tryd.sizeOf9
  v9 := Tryd.zeroValue9
  t20 := Tryd.underlying20
  a20 := Tryd.isAgg20
  z20 := Tryd.sizeOf20
  v20 := Tryd.zeroValue20
  t37 := Tryd.underlying42
  a37 := Tryd.isAgg42
  z37 := Tryd.sizeOf42
  v37 := Tryd.zeroValue42
  t70 := Tryd.underlying65
  a70 := Tryd.isAgg65
  z70 := Tryd.sizeOf65
  v70 := Tryd.zeroValue65
  t72 := Tryd.underlying67
  a72 := Tryd.isAgg67
  z72 := Tryd.sizeOf67
  v72 := Tryd.zeroValue67
  t75 := Tryd.underlying70
  a75 := Tryd.isAgg70
  z75 := Tryd.sizeOf70
  v75 := Tryd.zeroValue70
  t164 := Tryd.underlying102
  a164 := Tryd.isAgg102
  z164 := Tryd.sizeOf102
  v164 := Tryd.zeroValue102 }
theorem wLays168 : Go.Proofs.Lays.n168 Tryd.prog laysB_ren := {
  mixed := by kernel_rfl
  f168 := Tryd.func70.trans (congrArg some (by kernel_rfl))
  f240 := Tryd.func45.trans (congrArg some (by kernel_rfl))
  f242 := Tryd.func79.trans (congrArg some (by kernel_rfl))
  f276 := Tryd.func60.trans (congrArg some (by kernel_rfl))
  f278 := Tryd.func87.trans (congrArg some (by kernel_rfl))
  t0 := Tryd.underlying0
  a0 := Tryd.isAgg0
  z0 := Tryd.sizeOf0
  v0 := Tryd.zeroValue0
  t3 := Tryd.underlying3
  a3 := Tryd.isAgg3
  z3 := Tryd.sizeOf3
  v3 := Tryd.zeroValue3
  t4 := Tryd.underlying4
  a4 := Tryd.isAgg4
  z4 := Tryd.sizeOf4
  v4 := Tryd.zeroValue4
  t5 := Tryd.underlying5
  a5 := Tryd.isAgg5
  z5 := Tryd.sizeOf5
  v5 := Tryd.zeroValue5
  t9 := Tryd.underlying9
  a9 := Tryd.isAgg9
  z9 := Tryd.sizeOf9
  v9 := Tryd.zeroValue9
  t20 := Tryd.underlying20
  a20 := Tryd.isAgg20
  z20 := Tryd.sizeOf20
  v20 := Tryd.zeroValue20
  t21 := Tryd.underlying21
  a21 := Tryd.isAgg21
  z21 := Tryd.sizeOf21
  v21 := Tryd.zeroValue21
  t37 := Tryd.underlying42
  a37 := Tryd.isAgg42
  z37 := Tryd.sizeOf42
  v37 := Tryd.zeroValue42
  t46 := Tryd.underlying115
  a46 := Tryd.isAgg115
  z46 := Tryd.sizeOf115
  v46 := Tryd.zeroValue115
  t51 := Tryd.underlying122
  a51 := Tryd.isAgg122
  z51 := Tryd.sizeOf122
  v51 := Tryd.zeroValue122
  t70 := Tryd.underlying65
  a70 := Tryd.isAgg65
  z70 := Tryd.sizeOf65
  v70 := Tryd.zeroValue65
  t72 := Tryd.underlying67
  a72 := Tryd.isAgg67
  z72 := Tryd.sizeOf67
  v72 := Tryd.zeroValue67
  t75 := Tryd.underlying70
  a75 := Tryd.isAgg70
  z75 := Tryd.sizeOf70
  v75 := Tryd.zeroValue70
  t164 := Tryd.underlying102
  a164 := Tryd.isAgg102
  z164 := Tryd.sizeOf102
  v164 := Tryd.zeroValue102 }
theorem wLays169 : Go.Proofs.Lays.n169 Tryd.prog laysB_ren := {
  mixed := by kernel_rfl
  f169 := Tryd.func25.trans (congrArg some (by kernel_rfl))
  t0 := Tryd.underlying0
  a0 := Tryd.isAgg0
  z0 := Tryd.sizeOf0
  v0 := Tryd.zeroValue0
  t3 := Tryd.underlying3
  a3 := Tryd.isAgg3
  z3 := Tryd.sizeOf3
  v3 := Tryd.zeroValue3
  t9 := Tryd.underlying9
  a9 := Tryd.isAgg9
  z9 := Tryd.sizeOf9
  v9 := Tryd.zeroValue9
  t37 := Tryd.underlying42
  a37 := Tryd.isAgg42
  z37 := Tryd.sizeOf42
  v37 := Tryd.zeroValue42
  t70 := Tryd.underlying65
  a70 := Tryd.isAgg65
  z70 := Tryd.sizeOf65
  v70 := Tryd.zeroValue65
  t72 := Tryd.underlying67
  a72 := Tryd.isAgg67
  z72 := Tryd.sizeOf67
  v72 := Tryd.zeroValue67
  t127 := Tryd.underlying87
  a127 := Tryd.isAgg87
  z127 := Tryd.sizeOf87
  v127 := Tryd.zeroValue87 }
theorem wExtra : Builder.Extra Tryd.prog laysB_ren := {
  sizeBuilder := by kernel_rfl
  liesBuilder := by kernel_rfl
  t5 := Tryd.underlying5
  a5 := Tryd.isAgg5
  z5 := Tryd.sizeOf5
  v5 := Tryd.zeroValue5
  infoByte := by kernel_rfl
  cellsByte := by kernel_rfl
  sizeByte := by kernel_rfl
  neB5 := by decide }
theorem wByte (B b : Nat) (bs : List Value) (c : Int) (w : World) (h : Lib.IsBuilderF 67 5 B b bs w) (hlen : bs.length + 1 ≤ 140737488355328) (hBw : B ≤ w.heap.size) :
    Calls Tryd.prog 52 #[.pointer (some ⟨b, 0, none⟩), .int .u8 c] w fun e w' => e = .returned .nilIface ∧ (Lib.BuilderAtF 67 5 B b (.pointer (some ⟨b, 0, none⟩)) (bs ++ [.int .u8 c]) w' ∧ Below B w w' ∧ Lib.OthersKept 5 (some b) w w') := Any.Builder_WriteByte_k wLays167 wExtra B b bs c w h hlen hBw
theorem wString (B b : Nat) (bs : List Value) (s : ByteArray) (w : World) (h : Lib.IsBuilderF 67 5 B b bs w) (hlen : bs.length + s.size ≤ 140737488355328) (hBw : B ≤ w.heap.size) :
    Calls Tryd.prog 24 #[.pointer (some ⟨b, 0, none⟩), .string s] w fun e w' => e = .returned (.tuple #[.int .i64 s.size, .nilIface]) ∧ (Lib.BuilderAtF 67 5 B b (.pointer (some ⟨b, 0, none⟩)) (bs ++ Lib.strCells s) w' ∧ Below B w w' ∧ Lib.OthersKept 5 (some b) w w') := Any.Builder_WriteString_k wLays166 wExtra B b bs s w h hlen hBw
theorem wRune (B b : Nat) (bs : List Value) (r : Int) (hr0 : -2147483648 ≤ r) (hr1 : r ≤ 2147483647) (w : World) (h : Lib.IsBuilderF 67 5 B b bs w) (hlen : bs.length + 4 ≤ 140737488355328) (hBw : B ≤ w.heap.size) :
    Calls Tryd.prog 70 #[.pointer (some ⟨b, 0, none⟩), .int .i32 r] w fun e w' => e = .returned (.tuple #[.int .i64 (Lib.runeCells r).length, .nilIface]) ∧ (Lib.BuilderAtF 67 5 B b (.pointer (some ⟨b, 0, none⟩)) (bs ++ Lib.runeCells r) w' ∧ Below B w w' ∧ Lib.OthersKept 5 (some b) w w') := Any.Builder_WriteRune_k wLays168 wExtra B b bs r hr0 hr1 w h hlen hBw
theorem wStr (B b : Nat) (l : List UInt8) (w : World) (h : Lib.IsBuilderF 67 5 B b (Lib.byteCells l) w) (hBw : B ≤ w.heap.size) :
    Calls Tryd.prog 25 #[.pointer (some ⟨b, 0, none⟩)] w fun e w' => e = .returned (.string ⟨l.toArray⟩) ∧ (Lib.IsBuilderF 67 5 B b (Lib.byteCells l) w' ∧ Below B w w' ∧ Lib.OthersKept 5 (some b) w w') := Any.Builder_String_any_k wLays169 wExtra B b l w h hBw
end Go.Proofs
namespace Go.AL
theorem quoR_len (r : Int) : (quoR r).length ≤ 5 := by
  have := encA_len r
  unfold quoR
  rw [List.length_append]
  split <;> split <;> simp <;> omega
theorem quo_len : ∀ l : List Int, (l.flatMap quoR).length ≤ 5 * l.length
  | [] => Nat.zero_le _
  | r :: l => by
    have := quo_len l
    have := quoR_len r
    simp only [List.flatMap_cons, List.length_append, List.length_cons] at *
    omega
end Go.AL
namespace Go.Proofs
open Go.RowKit Go.Shelf
open AL in
theorem encodeRune_A (r : Int) : Lib.encodeRune r = AL.encA r := by
  have h : Utf8.valid r = true ∨ ¬ Utf8.valid r = true := Classical.em _
  rw [AL.encA_N]
  rcases h with h | h
  · rw [AL.fix_valid h]
    have hv := AL.valid_of h
    unfold Lib.encodeRune AL.encN
    have tb : ∀ n : Nat, n.toUInt8 = UInt8.ofNat n := fun n => rfl
    by_cases h1 : r ≤ 127
    · rw [Lib.encodeRuneZ_one (by omega) h1, if_pos (by omega)]
      simp only [List.map_cons, List.map_nil, tb]
    · by_cases h2 : r ≤ 2047
      · rw [Lib.encodeRuneZ_two (by omega) h2, if_neg (by omega), if_pos (by omega)]
        simp only [List.map_cons, List.map_nil, tb]
        rw [show (192 + r / 64).toNat = 192 + r.toNat / 64 by omega, show (128 + r % 64).toNat = 128 + r.toNat % 64 by omega]
      · by_cases h3 : r ≤ 65535
        · rw [Lib.encodeRuneZ_three (by omega), if_neg (by omega), if_neg (by omega), if_pos (by omega)]
          simp only [List.map_cons, List.map_nil, tb]
          rw [show (224 + r / 4096).toNat = 224 + r.toNat / 4096 by omega, show (128 + r / 64 % 64).toNat = 128 + r.toNat / 64 % 64 by omega, show (128 + r % 64).toNat = 128 + r.toNat % 64 by omega]
        · rw [Lib.encodeRuneZ_four (by omega) (by omega), if_neg (by omega), if_neg (by omega), if_neg (by omega)]
          simp only [List.map_cons, List.map_nil, tb]
          rw [show (240 + r / 262144).toNat = 240 + r.toNat / 262144 by omega, show (128 + r / 4096 % 64).toNat = 128 + r.toNat / 4096 % 64 by omega, show (128 + r / 64 % 64).toNat = 128 + r.toNat / 64 % 64 by omega, show (128 + r % 64).toNat = 128 + r.toNat % 64 by omega]
  · have hf : AL.fixR r = 65533 := if_neg h
    have hb : r < 0 ∨ 55296 ≤ r ∧ r ≤ 57343 ∨ 1114111 < r := by
      have : ¬ (0 ≤ r ∧ r < 55296 ∨ 57344 ≤ r ∧ r ≤ 1114111) := fun h0 => h (AL.valid_mk h0)
      omega
    rw [hf]
    unfold Lib.encodeRune
    rw [Lib.encodeRuneZ_bad hb]
    rfl
set_option maxHeartbeats 4000000 in
set_option maxRecDepth 1000000 in
theorem quote_walk (l : List UInt8) (w : World) (hs : l.length ≤ 10000000) :
    Calls Tryd.prog 59 #[.string ⟨l.toArray⟩] w fun e w' => e = .returned (.string ⟨(AL.quoT l).toArray⟩) ∧ Below w.heap.size w w' := by
  go_enter Tryd.func59, Tryd.ntmps59
  go_wp2_with (go_at_call 52; refine (wByte w.heap.size w.heap.size [] 34 _ (Lib.IsBuilderF.of (Lib.fresh_isBuilder 67 5 w)) (by simp) (by simp)).mono ?_)
  rintro e W0 ⟨rfl, h0, b0, k0⟩
  go_wp2
  have b00 : Below w.heap.size w W0 := ((Below.refl _ w).alloc (Nat.le_refl _) _).trans b0
  have hlt0 : w.heap.size < W0.heap.size := by have := b0.size; simp at this; omega
  have hql := AL.quo_len (AL.runeL l)
  have hrl := AL.runeL_len l
  go_loopw [] (fun wr => ∃ (pos : Nat) (acc : List UInt8), Lib.IsBuilderF 67 5 w.heap.size w.heap.size (Lib.byteCells acc) wr ∧ wr.heap[W0.heap.size]? = some (.stringIter ⟨l.toArray⟩ pos) ∧ Below w.heap.size w wr ∧ acc ++ (AL.restR l pos).flatMap AL.quoR = 34 :: (AL.runeL l).flatMap AL.quoR) (fun wr => l.length - wr.iterPos W0.heap.size)
  case atStart =>
    refine ⟨0, [34], Lib.IsBuilderF.alloc (Or.inr h0) _, ?_, b00.alloc (by omega) _, rfl⟩
    exact World.iter_heap W0 _ 0
  case round =>
    obtain ⟨pos, acc, hI, hit, hbw, hacc⟩ := hrel
    have hsz : W0.heap.size < wr.heap.size := (Array.getElem?_eq_some_iff.1 hit).1
    have hal : acc.length ≤ 50000001 := by
      have := congrArg List.length hacc
      rw [List.length_append, List.length_cons] at this
      omega
    by_cases hp : pos < l.length
    · have hp' : pos < (ByteArray.mk l.toArray).size := by rw [AL.sizeT]; exact hp
      have hnx : ∀ ty, (Instr.next (.pointer (some ⟨W0.heap.size, 0, none⟩)) true ty).run Tryd.prog wr = _ := fun ty => Lib.run_next_any_at wr W0.heap.size ⟨l.toArray⟩ pos ty hit hp'
      have hwd := AL.decW_pos hp
      have hd1 := decode_le ⟨l.toArray⟩ pos
      have hI2 := hI.iterAt hit (pos + (Utf8.decode ⟨l.toArray⟩ pos).2)
      have hit2 := Lib.iterAt_heap wr W0.heap.size ⟨l.toArray⟩ pos (pos + (Utf8.decode ⟨l.toArray⟩ pos).2) hit
      have hbw2 := Lib.below_iterAt hbw (k := W0.heap.size) (by omega) ⟨l.toArray⟩ (pos + (Utf8.decode ⟨l.toArray⟩ pos).2)
      have hsz2 : w.heap.size ≤ (wr.iterAt W0.heap.size ⟨l.toArray⟩ (pos + (Utf8.decode ⟨l.toArray⟩ pos).2)).heap.size := by rw [Lib.iterAt_size]; omega
      rw [AL.restR_step hp, List.flatMap_cons] at hacc
      have er : AL.decR l pos = ((Utf8.decode ⟨l.toArray⟩ pos).1 : Int) := rfl
      have ew : AL.decW l pos = (Utf8.decode ⟨l.toArray⟩ pos).2 := rfl
      have heq : ∀ x, x = AL.quoR (AL.decR l pos) → (acc ++ x) ++ (AL.restR l (pos + (Utf8.decode ⟨l.toArray⟩ pos).2)).flatMap AL.quoR = 34 :: (AL.runeL l).flatMap AL.quoR := fun x hx => by
        rw [hx, ← ew, List.append_assoc]; exact hacc
      have b92 : Lib.byteCells [92] = [Value.int .u8 92] := rfl
      by_cases h34 : (Utf8.decode ⟨l.toArray⟩ pos).1 = 34
      · go_wp2_with (go_at_call 52; refine (wByte w.heap.size w.heap.size _ 92 _ hI2 (by rw [Lib.byteCells_length]; omega) hsz2).mono ?_)
        rintro e W1 ⟨rfl, h1, b1, k1⟩
        have hb1 := hbw2.trans b1
        go_wp2_with (go_at_call 70; refine (wRune w.heap.size w.heap.size _ _ (by omega) (by omega) _ (Or.inr h1) (by rw [List.length_append, Lib.byteCells_length]; simp; omega) hb1.size).mono ?_)
        rintro e W2 ⟨rfl, h2, b2, k2⟩
        go_wp2
        go_roundw
        case rel =>
          refine ⟨pos + (Utf8.decode ⟨l.toArray⟩ pos).2, acc ++ ([92] ++ Lib.encodeRune (Utf8.decode ⟨l.toArray⟩ pos).1), ?_, k2.iter (k1.iter hit2 (by omega)) (by omega), hb1.trans b2, heq _ ?_⟩
          · rw [Lib.byteCells_append, Lib.byteCells_append, Lib.byteCells_encodeRune, b92, ← List.append_assoc, h34]; exact Or.inr h2
          · rw [encodeRune_A, ← er, AL.quoR, er, h34]; rfl
        case measure =>
          simp only [World.iterPos, k2.iter (k1.iter hit2 (by omega)) (by omega), hit]
          omega
      · by_cases h92 : (Utf8.decode ⟨l.toArray⟩ pos).1 = 92
        · go_wp2_with (go_at_call 52; refine (wByte w.heap.size w.heap.size _ 92 _ hI2 (by rw [Lib.byteCells_length]; omega) hsz2).mono ?_)
          rintro e W1 ⟨rfl, h1, b1, k1⟩
          have hb1 := hbw2.trans b1
          go_wp2_with (go_at_call 70; refine (wRune w.heap.size w.heap.size _ _ (by omega) (by omega) _ (Or.inr h1) (by rw [List.length_append, Lib.byteCells_length]; simp; omega) hb1.size).mono ?_)
          rintro e W2 ⟨rfl, h2, b2, k2⟩
          go_wp2
          go_roundw
          case rel =>
            refine ⟨pos + (Utf8.decode ⟨l.toArray⟩ pos).2, acc ++ ([92] ++ Lib.encodeRune (Utf8.decode ⟨l.toArray⟩ pos).1), ?_, k2.iter (k1.iter hit2 (by omega)) (by omega), hb1.trans b2, heq _ ?_⟩
            · rw [Lib.byteCells_append, Lib.byteCells_append, Lib.byteCells_encodeRune, b92, ← List.append_assoc, h92]; exact Or.inr h2
            · rw [encodeRune_A, ← er, AL.quoR, er, h92]; rfl
          case measure =>
            simp only [World.iterPos, k2.iter (k1.iter hit2 (by omega)) (by omega), hit]
            omega
        · by_cases h10 : (Utf8.decode ⟨l.toArray⟩ pos).1 = 10
          · go_wp2_with (go_at_call 24; refine (wString w.heap.size w.heap.size _ _ _ hI2 (by rw [Lib.byteCells_length]; have : (ByteArray.mk #[92, 110]).size = 2 := rfl; omega) hsz2).mono ?_)
            rintro e W1 ⟨rfl, h1, b1, k1⟩
            go_wp2
            go_roundw
            case rel =>
              refine ⟨pos + (Utf8.decode ⟨l.toArray⟩ pos).2, acc ++ [92, 110], ?_, k1.iter hit2 (by omega), hbw2.trans b1, heq _ ?_⟩
              · rw [Lib.byteCells_append]; exact Or.inr h1
              · rw [AL.quoR, er, h10]; rfl
            case measure =>
              simp only [World.iterPos, k1.iter hit2 (by omega), hit]
              omega
          · go_wp2_with (go_at_call 70; refine (wRune w.heap.size w.heap.size _ _ (by omega) (by omega) _ hI2 (by rw [Lib.byteCells_length]; omega) hsz2).mono ?_)
            rintro e W1 ⟨rfl, h1, b1, k1⟩
            go_wp2
            go_roundw
            case rel =>
              refine ⟨pos + (Utf8.decode ⟨l.toArray⟩ pos).2, acc ++ Lib.encodeRune (Utf8.decode ⟨l.toArray⟩ pos).1, ?_, k1.iter hit2 (by omega), hbw2.trans b1, heq _ ?_⟩
              · rw [Lib.byteCells_append, Lib.byteCells_encodeRune]; exact Or.inr h1
              · rw [encodeRune_A, ← er, AL.quoR, if_neg (by omega), if_neg (by omega)]; rfl
            case measure =>
              simp only [World.iterPos, k1.iter hit2 (by omega), hit]
              omega
    · have hp' : ¬ pos < (ByteArray.mk l.toArray).size := by rw [AL.sizeT]; exact hp
      have hnx : ∀ ty, (Instr.next (.pointer (some ⟨W0.heap.size, 0, none⟩)) true ty).run Tryd.prog wr = _ := fun ty => Lib.run_next_end_at wr W0.heap.size ⟨l.toArray⟩ pos ty hit hp'
      go_wp2_with (go_at_call 52; refine (wByte w.heap.size w.heap.size _ 34 _ hI (by rw [Lib.byteCells_length]; omega) hbw.size).mono ?_)
      rintro e W1 ⟨rfl, h1, b1, k1⟩
      have hb1 := hbw.trans b1
      have b34 : Lib.byteCells acc ++ [Value.int .u8 34] = Lib.byteCells (acc ++ [34]) := by rw [Lib.byteCells_append]; rfl
      rw [b34] at h1
      go_wp2_with (go_at_call 25; refine (wStr w.heap.size w.heap.size (acc ++ [34]) _ (Or.inr h1) hb1.size).mono ?_)
      rintro e W2 ⟨rfl, _, b2, _⟩
      go_wp2
      go_ret
      rw [AL.restR_end (by omega), List.flatMap_nil, List.append_nil] at hacc
      have : AL.quoT l = acc ++ [34] := by rw [hacc, AL.quoT]; rfl
      rw [this]
      exact ⟨rfl, hb1.trans b2⟩
end Go.Proofs
end

section
namespace Go.AL
def parR : Bool → List Int → Option Txt
  | false, [] => some []
  | true, [] => none
  | b, r :: l =>
    if b = true ∧ r = 110 then (parR false l).map fun t => 10 :: t
    else if b = false ∧ r = 92 then parR true l
    else if b ≠ decide (r = 34 ∨ r = 92) then none
    else (parR false l).map fun t => encA r ++ t
def unqL (l : Txt) : Option Txt :=
  if l.length < 2 ∨ l.getD 0 0 ≠ 34 ∨ l.getD (l.length - 1) 0 ≠ 34 then none
  else match parR false (runeL (remT l 1)) with
    | none => none
    | some t => if quoT t = l then some t else none
end Go.AL
namespace Go.Proofs
open Go.RowKit
def unqRes : Option (List UInt8) → Value
  | some t => .tuple #[.string ⟨t.toArray⟩, .int .i64 0]
  | none => .tuple #[.string ⟨#[]⟩, .int .i64 10]
theorem extract_remT (l : List UInt8) : (ByteArray.mk l.toArray).extract 1 (l.length - 1) = ⟨(AL.remT l 1).toArray⟩ := by
  refine ByteArray.ext ?_
  rw [ByteArray.data_extract]
  refine Array.ext' ?_
  simp [AL.remT]
theorem unqL_bad {l : List UInt8} (h : l.length < 2 ∨ l.getD 0 0 ≠ 34 ∨ l.getD (l.length - 1) 0 ≠ 34) : AL.unqL l = none := by
  unfold AL.unqL; rw [if_pos h]
theorem unqL_none {l : List UInt8} (h : AL.parR false (AL.runeL (AL.remT l 1)) = none) : AL.unqL l = none := by
  unfold AL.unqL; rw [h]; split <;> rfl
theorem unqL_ne {l t : List UInt8} (h : AL.parR false (AL.runeL (AL.remT l 1)) = some t) (hq : AL.quoT t ≠ l) : AL.unqL l = none := by
  unfold AL.unqL; rw [h]; split
  · rfl
  · exact if_neg hq
theorem unqL_eq {l t : List UInt8} (h0 : ¬ (l.length < 2 ∨ l.getD 0 0 ≠ 34 ∨ l.getD (l.length - 1) 0 ≠ 34)) (h : AL.parR false (AL.runeL (AL.remT l 1)) = some t) (hq : AL.quoT t = l) : AL.unqL l = some t := by
  unfold AL.unqL; rw [h, if_neg h0]; exact if_pos hq
theorem byteAt (l : List UInt8) (i : Nat) (h : i < l.length) (hz : i < (ByteArray.mk l.toArray).size) : (ByteArray.mk l.toArray)[i]'hz = l.getD i 0 := by
  have : (ByteArray.mk l.toArray)[i]'hz = l[i] := rfl
  rw [this]; simp [List.getD, List.getElem?_eq_getElem h]
theorem u8_34 {c : UInt8} (h : (c.toNat : Int) = 34) : c = 34 := UInt8.toNat_inj.1 (by have : (34 : UInt8).toNat = 34 := rfl; omega)
set_option maxHeartbeats 8000000 in
set_option maxRecDepth 1000000 in
theorem unquote_walk (l : List UInt8) (w : World) (hs : l.length ≤ 1000000) :
    Calls Tryd.prog 64 #[.string ⟨l.toArray⟩] w fun e w' => e = .returned (unqRes (AL.unqL l)) ∧ Below w.heap.size w w' := by
  have hsz : (ByteArray.mk l.toArray).size = l.length := AL.sizeT l
  go_enter Tryd.func64, Tryd.ntmps64
  by_cases h2 : l.length < 2
  · go_wp2
    go_ret2
    rw [unqL_bad (.inl h2)]
    exact ⟨rfl, Below.refl _ _⟩
  · go_wp2
    · rename_i f1 f2 f3 f4 f5
      go_ret2
      rw [unqL_bad (.inr (.inr ?_))]
      · exact ⟨rfl, Below.refl _ _⟩
      · rw [← byteAt l _ (by omega) (by omega)]
        intro h9
        rw [h9] at f5
        rcases f5 with f5 | f5
        · omega
        · exact absurd f5 (by decide)
    · rename_i f1 f2 f3 f4 f5 KK aa
      have hf3 := u8_34 f3
      have hf5 := u8_34 (by have := f5.2; simpa using this)
      rw [byteAt l _ (by omega) (by omega)] at hf3 hf5
      have hgd : ¬ (l.length < 2 ∨ l.getD 0 0 ≠ 34 ∨ l.getD (l.length - 1) 0 ≠ 34) := by
        rw [hf3, hf5]; simp [h2]
      rw [extract_remT]
      clear f5 f3
      have hml : (AL.remT l 1).length ≤ l.length := by unfold AL.remT; rw [List.length_take, List.length_drop]; omega
      generalize hm : AL.remT l 1 = m at *
      go_loopw [5] (fun s5 wr => ∃ (back : Bool) (pos : Nat) (acc : List UInt8), s5 = .bool back ∧ Lib.IsBuilderF 67 5 w.heap.size w.heap.size (Lib.byteCells acc) wr ∧ wr.heap[w.heap.size + 1]? = some (.stringIter ⟨m.toArray⟩ pos) ∧ Below w.heap.size w wr ∧ AL.parR false (AL.runeL m) = (AL.parR back (AL.restR m pos)).map (fun t => acc ++ t) ∧ acc.length ≤ 4 * pos ∧ pos ≤ m.length) (fun _ wr => m.length - wr.iterPos (w.heap.size + 1))
      case atStart =>
        refine ⟨false, 0, [], rfl, (Lib.IsBuilderF.of (Lib.fresh_isBuilder 67 5 w)).alloc _, ?_, ((Below.refl _ w).alloc (Nat.le_refl _) _).alloc (by simp) _, ?_, by simp, by omega⟩
        · have := World.iter_heap (w.alloc (.cells #[.pointer none, .slice none 0 0] 67)) ⟨m.toArray⟩ 0
          simpa using this
        · show _ = (AL.parR false (AL.runeL m)).map _
          simp
      case round =>
        obtain ⟨back, pos, acc, rfl, hI, hit, hbw, hpar, hal, hpl⟩ := hrel
        have hsz1 : w.heap.size + 1 < wr.heap.size := (Array.getElem?_eq_some_iff.1 hit).1
        by_cases hp : pos < m.length
        · have hp' : pos < (ByteArray.mk m.toArray).size := by rw [AL.sizeT]; exact hp
          have hnx : ∀ ty, (Instr.next (.pointer (some ⟨w.heap.size + 1, 0, none⟩)) true ty).run Tryd.prog wr = _ := fun ty => Lib.run_next_any_at wr (w.heap.size + 1) ⟨m.toArray⟩ pos ty hit hp'
          have hwd := AL.decW_pos hp
          have hwl := AL.decW_le hp
          have hd1 := decode_le ⟨m.toArray⟩ pos
          have hI2 := hI.iterAt hit (pos + (Utf8.decode ⟨m.toArray⟩ pos).2)
          have hit2 := Lib.iterAt_heap wr (w.heap.size + 1) ⟨m.toArray⟩ pos (pos + (Utf8.decode ⟨m.toArray⟩ pos).2) hit
          have hbw2 := Lib.below_iterAt hbw (k := w.heap.size + 1) (by omega) ⟨m.toArray⟩ (pos + (Utf8.decode ⟨m.toArray⟩ pos).2)
          have hsz2 : w.heap.size ≤ (wr.iterAt (w.heap.size + 1) ⟨m.toArray⟩ (pos + (Utf8.decode ⟨m.toArray⟩ pos).2)).heap.size := by rw [Lib.iterAt_size]; omega
          rw [AL.restR_step hp] at hpar
          have er : AL.decR m pos = ((Utf8.decode ⟨m.toArray⟩ pos).1 : Int) := rfl
          have ew : AL.decW m pos = (Utf8.decode ⟨m.toArray⟩ pos).2 := rfl
          cases back with
          | true =>
            by_cases h110 : (Utf8.decode ⟨m.toArray⟩ pos).1 = 110
            · rw [AL.parR, if_pos ⟨rfl, by omega⟩] at hpar
              go_wp2_with (go_at_call 52; refine (wByte w.heap.size w.heap.size _ 10 _ hI2 (by rw [Lib.byteCells_length]; omega) hsz2).mono ?_)
              rintro e W1 ⟨rfl, h1, b1, k1⟩
              go_wp2
              go_roundw
              case rel =>
                refine ⟨false, pos + (Utf8.decode ⟨m.toArray⟩ pos).2, acc ++ [10], rfl, ?_, k1.iter hit2 (by omega), hbw2.trans b1, ?_, ?_, by omega⟩
                · rw [Lib.byteCells_append]; exact Or.inr h1
                · rw [hpar, Option.map_map, ← ew]
                  congr 1
                  funext t; simp
                · rw [List.length_append, List.length_singleton]; omega
              case measure =>
                simp only [World.iterPos, k1.iter hit2 (by omega), hit]
                omega
            · rw [AL.parR, if_neg (by omega), if_neg (by simp)] at hpar
              by_cases h34 : (Utf8.decode ⟨m.toArray⟩ pos).1 = 34
              · rw [if_neg (by simp [er, h34])] at hpar
                go_wp2_with (go_at_call 70; refine (wRune w.heap.size w.heap.size _ _ (by omega) (by omega) _ hI2 (by rw [Lib.byteCells_length]; omega) hsz2).mono ?_)
                rintro e W1 ⟨rfl, h1, b1, k1⟩
                go_wp2
                go_roundw
                case rel =>
                  refine ⟨false, pos + (Utf8.decode ⟨m.toArray⟩ pos).2, acc ++ Lib.encodeRune (Utf8.decode ⟨m.toArray⟩ pos).1, rfl, ?_, k1.iter hit2 (by omega), hbw2.trans b1, ?_, ?_, by omega⟩
                  · rw [Lib.byteCells_append, Lib.byteCells_encodeRune]; exact Or.inr (by first | exact h1 | (simp only [h34]; exact h1) | (simp only [h92]; exact h1))
                  · rw [encodeRune_A, hpar, Option.map_map, ← ew]
                    congr 1
                    funext t; simp [er]
                  · have := AL.encA_len (Utf8.decode ⟨m.toArray⟩ pos).1
                    rw [List.length_append, encodeRune_A]; omega
                case measure =>
                  simp only [World.iterPos, k1.iter hit2 (by omega), hit]
                  omega
              · by_cases h92 : (Utf8.decode ⟨m.toArray⟩ pos).1 = 92
                · rw [if_neg (by simp [er, h92])] at hpar
                  go_wp2_with (go_at_call 70; refine (wRune w.heap.size w.heap.size _ _ (by omega) (by omega) _ hI2 (by rw [Lib.byteCells_length]; omega) hsz2).mono ?_)
                  rintro e W1 ⟨rfl, h1, b1, k1⟩
                  go_wp2
                  go_roundw
                  case rel =>
                    refine ⟨false, pos + (Utf8.decode ⟨m.toArray⟩ pos).2, acc ++ Lib.encodeRune (Utf8.decode ⟨m.toArray⟩ pos).1, rfl, ?_, k1.iter hit2 (by omega), hbw2.trans b1, ?_, ?_, by omega⟩
                    · rw [Lib.byteCells_append, Lib.byteCells_encodeRune]; exact Or.inr (by first | exact h1 | (simp only [h34]; exact h1) | (simp only [h92]; exact h1))
                    · rw [encodeRune_A, hpar, Option.map_map, ← ew]
                      congr 1
                      funext t; simp [er]
                    · have := AL.encA_len (Utf8.decode ⟨m.toArray⟩ pos).1
                      rw [List.length_append, encodeRune_A]; omega
                  case measure =>
                    simp only [World.iterPos, k1.iter hit2 (by omega), hit]
                    omega
                · rw [if_pos (by have : ¬ (AL.decR m pos = 34 ∨ AL.decR m pos = 92) := by omega
                                 simp [this])] at hpar
                  have i34 : ¬ (((Utf8.decode ⟨m.toArray⟩ pos).1 : Nat) : Int) = 34 := by omega
                  have i92 : ¬ (((Utf8.decode ⟨m.toArray⟩ pos).1 : Nat) : Int) = 92 := by omega
                  go_wp2
                  · go_ret2
                    rw [unqL_none (by rw [hm, hpar]; rfl)]
                    exact ⟨rfl, hbw2⟩
                  all_goals
                    exfalso
                    have key : ¬ ((!((((Utf8.decode ⟨m.toArray⟩ pos).1 : Nat) : Int) == 34)) = false ∨ (!((((Utf8.decode ⟨m.toArray⟩ pos).1 : Nat) : Int) == 92)) = false) := by simp [i34, i92]
                    exact key (by assumption)
          | false =>
            rw [AL.parR, if_neg (by simp)] at hpar
            by_cases h92 : (Utf8.decode ⟨m.toArray⟩ pos).1 = 92
            · rw [if_pos ⟨rfl, by omega⟩] at hpar
              go_wp2
              go_roundw
              case rel =>
                refine ⟨true, pos + (Utf8.decode ⟨m.toArray⟩ pos).2, acc, rfl, hI2, hit2, hbw2, ?_, by omega, by omega⟩
                rw [hpar, ← ew]
              case measure =>
                simp only [World.iterPos, hit2, hit]
                omega
            · rw [if_neg (by omega)] at hpar
              by_cases h34 : (Utf8.decode ⟨m.toArray⟩ pos).1 = 34
              · rw [if_pos (by simp [er, h34])] at hpar
                go_wp2
                go_ret2
                rw [unqL_none (by rw [hm, hpar]; rfl)]
                exact ⟨rfl, hbw2⟩
              · rw [if_neg (by have : ¬ (AL.decR m pos = 34 ∨ AL.decR m pos = 92) := by omega
                               simp [this])] at hpar
                go_wp2_with (go_at_call 70; refine (wRune w.heap.size w.heap.size _ _ (by omega) (by omega) _ hI2 (by rw [Lib.byteCells_length]; omega) hsz2).mono ?_)
                rintro e W1 ⟨rfl, h1, b1, k1⟩
                go_wp2
                go_roundw
                case rel =>
                  refine ⟨false, pos + (Utf8.decode ⟨m.toArray⟩ pos).2, acc ++ Lib.encodeRune (Utf8.decode ⟨m.toArray⟩ pos).1, rfl, ?_, k1.iter hit2 (by omega), hbw2.trans b1, ?_, ?_, by omega⟩
                  · rw [Lib.byteCells_append, Lib.byteCells_encodeRune]; exact Or.inr (by first | exact h1 | (simp only [h34]; exact h1) | (simp only [h92]; exact h1))
                  · rw [encodeRune_A, hpar, Option.map_map, ← ew]
                    congr 1
                    funext t; simp [er]
                  · have := AL.encA_len (Utf8.decode ⟨m.toArray⟩ pos).1
                    rw [List.length_append, encodeRune_A]; omega
                case measure =>
                  simp only [World.iterPos, k1.iter hit2 (by omega), hit]
                  omega
        · have hp' : ¬ pos < (ByteArray.mk m.toArray).size := by rw [AL.sizeT]; exact hp
          have hnx : ∀ ty, (Instr.next (.pointer (some ⟨w.heap.size + 1, 0, none⟩)) true ty).run Tryd.prog wr = _ := fun ty => Lib.run_next_end_at wr (w.heap.size + 1) ⟨m.toArray⟩ pos ty hit hp'
          rw [AL.restR_end (by omega)] at hpar
          cases back with
          | true =>
            go_wp2
            go_ret2
            rw [unqL_none (by rw [hm, hpar]; rfl)]
            exact ⟨rfl, hbw⟩
          | false =>
            have hpar : AL.parR false (AL.runeL m) = some acc := by rw [hpar]; simp [AL.parR]
            go_wp2_with (go_at_call 25; refine (wStr w.heap.size w.heap.size acc _ hI hbw.size).mono ?_)
            rintro e W1 ⟨rfl, h1, b1, k1⟩
            have hb1 := hbw.trans b1
            go_wp2_with (go_at_call 59; refine (quote_walk acc _ (by omega)).mono ?_)
            rintro e W2 ⟨rfl, b2⟩
            have hb2 := hb1.trans (b2.mono hb1.size)
            by_cases hq : AL.quoT acc = l
            · go_wp2_with (go_at_call 25; refine (wStr w.heap.size w.heap.size acc _ (Lib.IsBuilderF.below h1 b2) hb2.size).mono ?_)
              rintro e W3 ⟨rfl, _, b3, _⟩
              go_wp2
              go_ret2
              have hm' : AL.parR false (AL.runeL (AL.remT l 1)) = some acc := by rw [hm]; exact hpar
              rw [unqL_eq hgd hm' hq]
              exact ⟨rfl, hb2.trans b3⟩
            · have hm' : AL.parR false (AL.runeL (AL.remT l 1)) = some acc := by rw [hm]; exact hpar
              go_wp2
              · go_ret2
                rw [unqL_ne hm' hq]
                exact ⟨rfl, hb2⟩
              all_goals
                exfalso
                have key : ¬ ((!(AL.quoT acc == l)) = false) := by simp [hq]
                exact key (by assumption)
    · rename_i f1 f2 f3
      go_ret2
      rw [unqL_bad (.inr (.inl ?_))]
      · exact ⟨rfl, Below.refl _ _⟩
      · rw [← byteAt l _ (by omega) (by omega)]
        intro h9
        rw [h9] at f3
        exact f3 rfl
end Go.Proofs
end
