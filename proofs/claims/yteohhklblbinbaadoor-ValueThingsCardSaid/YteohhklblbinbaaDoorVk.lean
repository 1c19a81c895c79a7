/-
  Seat 02 (value): the functions that write a strings.Builder, walked with the kit: Quote.
-/
import Derived.Shelf.Strings.BuilderK
import Derived.Shelf.Strings.BuilderRune
import Derived.Test.YteohhklblbinbaaDoorQu
import Derived.Test.YteohhklblbinbaaDoorProg
import Derived.WalkKit
import Derived.BigCall
namespace Go.Proofs
open Go.RowKit Go.Shelf
def laysB_ren : Go.Shelf.Ren := ⟨fun | 166 => 46 | 168 => 43 | 167 => 42 | 169 => 44 | 240 => 55 | 242 => 56 | 276 => 62 | 278 => 63 | n => n, fun | 9 => 9 | 72 => 74 | 0 => 0 | 4 => 4 | 3 => 3 | 21 => 21 | 76 => 60 | 5 => 5 | 75 => 59 | 70 => 72 | 20 => 20 | 37 => 26 | 127 => 88 | 46 => 70 | 164 => 95 | 51 => 97 | 80 => 77 | n => n, fun | n => n⟩
theorem wLays166 : Go.Proofs.Lays.n166 Tryd.prog laysB_ren := {
  mixed := by kernel_rfl
  f166 := Tryd.func46.trans (congrArg some (by kernel_rfl))
  f240 := Tryd.func55.trans (congrArg some (by kernel_rfl))
  f276 := Tryd.func62.trans (congrArg some (by kernel_rfl))
  t0 := Tryd.underlying0
  a0 := Tryd.isAgg0
  z0 := Tryd.sizeOf0
  v0 := Tryd.zeroValue0
  t3 := Tryd.underlying3
  a3 := Tryd.isAgg3
  z3 := Tryd.sizeOf3
  v3 := Tryd.zeroValue3
  t4 := Tryd.underlying4
  a4 := Tryd.isAgg4
  z4 := Tryd.sizeOf4
  v4 := Tryd.zeroValue4
  t9 := Tryd.underlying9
  a9 := Tryd.isAgg9
  z9 := Tryd.sizeOf9
  v9 := Tryd.zeroValue9
  t20 := Tryd.underlying20
  a20 := Tryd.isAgg20
  z20 := Tryd.sizeOf20
  v20 := Tryd.zeroValue20
  t37 := Tryd.underlying26
  a37 := Tryd.isAgg26
  z37 := Tryd.sizeOf26
  v37 := Tryd.zeroValue26
  t70 := Tryd.underlying72
  a70 := Tryd.isAgg72
  z70 := Tryd.sizeOf72
  v70 := Tryd.zeroValue72
  t72 := Tryd.underlying74
  a72 := Tryd.isAgg74
  z72 := Tryd.sizeOf74
  v72 := Tryd.zeroValue74
  t75 := Tryd.underlying59
  a75 := Tryd.isAgg59
  z75 := Tryd.sizeOf59
  v75 := Tryd.zeroValue59
  t164 := Tryd.underlying95
  a164 := Tryd.isAgg95
  z164 := Tryd.sizeOf95
  v164 := Tryd.zeroValue95 }
theorem wLays167 : Go.Proofs.Lays.n167 Tryd.prog laysB_ren := {
  mixed := by kernel_rfl
  f167 := Tryd.func42.trans (congrArg some (by kernel_rfl))
  f240 := Tryd.func55.trans (congrArg some (by kernel_rfl))
  f276 := Tryd.func62.trans (congrArg some (by kernel_rfl))
  t0 := Tryd.underlying0
  a0 := Tryd.isAgg0
  z0 := Tryd.sizeOf0
  v0 := Tryd.zeroValue0
  t4 := Tryd.underlying4
  a4 := Tryd.isAgg4
  z4 := Tryd.sizeOf4
  v4 := Tryd.zeroValue4
  t5 := Tryd.underlying5
  a5 := Tryd.isAgg5
  z5 := Tryd.sizeOf5
  v5 := Tryd.zeroValue5
  t9 := Tryd.underlying9
  a9 := Tryd.isAgg9
  z9 := Tryd.sizeOf9
  v9 := Tryd.zeroValue9
  t20 := Tryd.underlying20
  a20 := Tryd.isAgg20
  z20 := Tryd.sizeOf20
  v20 := Tryd.zeroValue20
  t37 := Tryd.underlying26
  a37 := Tryd.isAgg26
  z37 := Tryd.sizeOf26
  v37 := Tryd.zeroValue26
  t70 := Tryd.underlying72
  a70 := Tryd.isAgg72
  z70 := Tryd.sizeOf72
  v70 := Tryd.zeroValue72
  t72 := Tryd.underlying74
  a72 := Tryd.isAgg74
  z72 := Tryd.sizeOf74
  v72 := Tryd.zeroValue74
  t75 := Tryd.underlying59
  a75 := Tryd.isAgg59
  z75 := Tryd.sizeOf59
  v75 := Tryd.zeroValue59
  t164 := Tryd.underlying95
  a164 := Tryd.isAgg95
  z164 := Tryd.sizeOf95
  v164 := Tryd.zeroValue95 }
theorem wLays168 : Go.Proofs.Lays.n168 Tryd.prog laysB_ren := {
  mixed := by kernel_rfl
  f168 := Tryd.func43.trans (congrArg some (by kernel_rfl))
  f240 := Tryd.func55.trans (congrArg some (by kernel_rfl))
  f242 := Tryd.func56.trans (congrArg some (by kernel_rfl))
  f276 := Tryd.func62.trans (congrArg some (by kernel_rfl))
  f278 := Tryd.func63.trans (congrArg some (by kernel_rfl))
  t0 := Tryd.underlying0
  a0 := Tryd.isAgg0
  z0 := Tryd.sizeOf0
  v0 := Tryd.zeroValue0
  t3 := Tryd.underlying3
  a3 := Tryd.isAgg3
  z3 := Tryd.sizeOf3
  v3 := Tryd.zeroValue3
  t4 := Tryd.underlying4
  a4 := Tryd.isAgg4
  z4 := Tryd.sizeOf4
  v4 := Tryd.zeroValue4
  t5 := Tryd.underlying5
  a5 := Tryd.isAgg5
  z5 := Tryd.sizeOf5
  v5 := Tryd.zeroValue5
  t9 := Tryd.underlying9
  a9 := Tryd.isAgg9
  z9 := Tryd.sizeOf9
  v9 := Tryd.zeroValue9
  t20 := Tryd.underlying20
  a20 := Tryd.isAgg20
  z20 := Tryd.sizeOf20
  v20 := Tryd.zeroValue20
  t21 := Tryd.underlying21
  a21 := Tryd.isAgg21
  z21 := Tryd.sizeOf21
  v21 := Tryd.zeroValue21
  t37 := Tryd.underlying26
  a37 := Tryd.isAgg26
  z37 := Tryd.sizeOf26
  v37 := Tryd.zeroValue26
  t46 := Tryd.underlying70
  a46 := Tryd.isAgg70
  z46 := Tryd.sizeOf70
  v46 := Tryd.zeroValue70
  t51 := Tryd.underlying97
  a51 := Tryd.isAgg97
  z51 := Tryd.sizeOf97
  v51 := Tryd.zeroValue97
  t70 := Tryd.underlying72
  a70 := Tryd.isAgg72
  z70 := Tryd.sizeOf72
  v70 := Tryd.zeroValue72
  t72 := Tryd.underlying74
  a72 := Tryd.isAgg74
  z72 := Tryd.sizeOf74
  v72 := Tryd.zeroValue74
  t75 := Tryd.underlying59
  a75 := Tryd.isAgg59
  z75 := Tryd.sizeOf59
  v75 := Tryd.zeroValue59
  t164 := Tryd.underlying95
  a164 := Tryd.isAgg95
  z164 := Tryd.sizeOf95
  v164 := Tryd.zeroValue95 }
theorem wLays169 : Go.Proofs.Lays.n169 Tryd.prog laysB_ren := {
  mixed := by kernel_rfl
  f169 := Tryd.func44.trans (congrArg some (by kernel_rfl))
  t0 := Tryd.underlying0
  a0 := Tryd.isAgg0
  z0 := Tryd.sizeOf0
  v0 := Tryd.zeroValue0
  t3 := Tryd.underlying3
  a3 := Tryd.isAgg3
  z3 := Tryd.sizeOf3
  v3 := Tryd.zeroValue3
  t9 := Tryd.underlying9
  a9 := Tryd.isAgg9
  z9 := Tryd.sizeOf9
  v9 := Tryd.zeroValue9
  t37 := Tryd.underlying26
  a37 := Tryd.isAgg26
  z37 := Tryd.sizeOf26
  v37 := Tryd.zeroValue26
  t70 := Tryd.underlying72
  a70 := Tryd.isAgg72
  z70 := Tryd.sizeOf72
  v70 := Tryd.zeroValue72
  t72 := Tryd.underlying74
  a72 := Tryd.isAgg74
  z72 := Tryd.sizeOf74
  v72 := Tryd.zeroValue74
  t127 := Tryd.underlying88
  a127 := Tryd.isAgg88
  z127 := Tryd.sizeOf88
  v127 := Tryd.zeroValue88 }
theorem wExtra : Builder.Extra Tryd.prog laysB_ren := {
  sizeBuilder := by kernel_rfl
  liesBuilder := by kernel_rfl
  t5 := Tryd.underlying5
  a5 := Tryd.isAgg5
  z5 := Tryd.sizeOf5
  v5 := Tryd.zeroValue5
  infoByte := by kernel_rfl
  cellsByte := by kernel_rfl
  sizeByte := by kernel_rfl
  neB5 := by decide }
theorem wByte (B b : Nat) (bs : List Value) (c : Int) (w : World) (h : Lib.IsBuilderF 74 5 B b bs w) (hlen : bs.length + 1 ≤ 140737488355328) (hBw : B ≤ w.heap.size) :
    Calls Tryd.prog 42 #[.pointer (some ⟨b, 0, none⟩), .int .u8 c] w fun e w' => e = .returned .nilIface ∧ (Lib.BuilderAtF 74 5 B b (.pointer (some ⟨b, 0, none⟩)) (bs ++ [.int .u8 c]) w' ∧ Below B w w' ∧ Lib.OthersKept 5 (some b) w w') := Any.Builder_WriteByte_k wLays167 wExtra B b bs c w h hlen hBw
theorem wString (B b : Nat) (bs : List Value) (s : ByteArray) (w : World) (h : Lib.IsBuilderF 74 5 B b bs w) (hlen : bs.length + s.size ≤ 140737488355328) (hBw : B ≤ w.heap.size) :
    Calls Tryd.prog 46 #[.pointer (some ⟨b, 0, none⟩), .string s] w fun e w' => e = .returned (.tuple #[.int .i64 s.size, .nilIface]) ∧ (Lib.BuilderAtF 74 5 B b (.pointer (some ⟨b, 0, none⟩)) (bs ++ Lib.strCells s) w' ∧ Below B w w' ∧ Lib.OthersKept 5 (some b) w w') := Any.Builder_WriteString_k wLays166 wExtra B b bs s w h hlen hBw
theorem wRune (B b : Nat) (bs : List Value) (r : Int) (hr0 : -2147483648 ≤ r) (hr1 : r ≤ 2147483647) (w : World) (h : Lib.IsBuilderF 74 5 B b bs w) (hlen : bs.length + 4 ≤ 140737488355328) (hBw : B ≤ w.heap.size) :
    Calls Tryd.prog 43 #[.pointer (some ⟨b, 0, none⟩), .int .i32 r] w fun e w' => e = .returned (.tuple #[.int .i64 (Lib.runeCells r).length, .nilIface]) ∧ (Lib.BuilderAtF 74 5 B b (.pointer (some ⟨b, 0, none⟩)) (bs ++ Lib.runeCells r) w' ∧ Below B w w' ∧ Lib.OthersKept 5 (some b) w w') := Any.Builder_WriteRune_k wLays168 wExtra B b bs r hr0 hr1 w h hlen hBw
theorem wStr (B b : Nat) (l : List UInt8) (w : World) (h : Lib.IsBuilderF 74 5 B b (Lib.byteCells l) w) (hBw : B ≤ w.heap.size) :
    Calls Tryd.prog 44 #[.pointer (some ⟨b, 0, none⟩)] w fun e w' => e = .returned (.string ⟨l.toArray⟩) ∧ (Lib.IsBuilderF 74 5 B b (Lib.byteCells l) w' ∧ Below B w w' ∧ Lib.OthersKept 5 (some b) w w') := Any.Builder_String_any_k wLays169 wExtra B b l w h hBw
end Go.Proofs
namespace Go.AL
theorem quoR_len (r : Int) : (quoR r).length ≤ 5 := by
  have := encA_len r
  unfold quoR
  rw [List.length_append]
  split <;> split <;> simp <;> omega
theorem quo_len : ∀ l : List Int, (l.flatMap quoR).length ≤ 5 * l.length
  | [] => Nat.zero_le _
  | r :: l => by
    have := quo_len l
    have := quoR_len r
    simp only [List.flatMap_cons, List.length_append, List.length_cons] at *
    omega
theorem quoT_len (s : Txt) : (quoT s).length ≤ 5 * s.length + 2 := by
  have := quo_len (runeL s)
  have := runeL_len s
  simp only [quoT, List.length_cons, List.length_append, List.length_nil] at *
  omega
end Go.AL
namespace Go.Proofs
open Go.RowKit Go.Shelf
open AL in
theorem encodeRune_A (r : Int) : Lib.encodeRune r = AL.encA r := by
  have h : Utf8.valid r = true ∨ ¬ Utf8.valid r = true := Classical.em _
  rw [AL.encA_N]
  rcases h with h | h
  · rw [AL.fix_valid h]
    have hv := AL.valid_of h
    unfold Lib.encodeRune AL.encN
    have tb : ∀ n : Nat, n.toUInt8 = UInt8.ofNat n := fun n => rfl
    by_cases h1 : r ≤ 127
    · rw [Lib.encodeRuneZ_one (by omega) h1, if_pos (by omega)]
      simp only [List.map_cons, List.map_nil, tb]
    · by_cases h2 : r ≤ 2047
      · rw [Lib.encodeRuneZ_two (by omega) h2, if_neg (by omega), if_pos (by omega)]
        simp only [List.map_cons, List.map_nil, tb]
        rw [show (192 + r / 64).toNat = 192 + r.toNat / 64 by omega, show (128 + r % 64).toNat = 128 + r.toNat % 64 by omega]
      · by_cases h3 : r ≤ 65535
        · rw [Lib.encodeRuneZ_three (by omega), if_neg (by omega), if_neg (by omega), if_pos (by omega)]
          simp only [List.map_cons, List.map_nil, tb]
          rw [show (224 + r / 4096).toNat = 224 + r.toNat / 4096 by omega, show (128 + r / 64 % 64).toNat = 128 + r.toNat / 64 % 64 by omega, show (128 + r % 64).toNat = 128 + r.toNat % 64 by omega]
        · rw [Lib.encodeRuneZ_four (by omega) (by omega), if_neg (by omega), if_neg (by omega), if_neg (by omega)]
          simp only [List.map_cons, List.map_nil, tb]
          rw [show (240 + r / 262144).toNat = 240 + r.toNat / 262144 by omega, show (128 + r / 4096 % 64).toNat = 128 + r.toNat / 4096 % 64 by omega, show (128 + r / 64 % 64).toNat = 128 + r.toNat / 64 % 64 by omega, show (128 + r % 64).toNat = 128 + r.toNat % 64 by omega]
  · have hf : AL.fixR r = 65533 := if_neg h
    have hb : r < 0 ∨ 55296 ≤ r ∧ r ≤ 57343 ∨ 1114111 < r := by
      have : ¬ (0 ≤ r ∧ r < 55296 ∨ 57344 ≤ r ∧ r ≤ 1114111) := fun h0 => h (AL.valid_mk h0)
      omega
    rw [hf]
    unfold Lib.encodeRune
    rw [Lib.encodeRuneZ_bad hb]
    rfl
set_option maxHeartbeats 4000000 in
set_option maxRecDepth 1000000 in
theorem quote_walk (l : List UInt8) (w : World) (hs : l.length ≤ 10000000) :
    Calls Tryd.prog 30 #[.string ⟨l.toArray⟩] w fun e w' => e = .returned (.string ⟨(AL.quoT l).toArray⟩) ∧ Below w.heap.size w w' := by
  go_enter Tryd.func30, Tryd.ntmps30
  go_wp2_with (go_at_call 42; refine (wByte w.heap.size w.heap.size [] 34 _ (Lib.IsBuilderF.of (Lib.fresh_isBuilder 74 5 w)) (by simp) (by simp)).mono ?_)
  rintro e W0 ⟨rfl, h0, b0, k0⟩
  go_wp2
  have b00 : Below w.heap.size w W0 := ((Below.refl _ w).alloc (Nat.le_refl _) _).trans b0
  have hlt0 : w.heap.size < W0.heap.size := by have := b0.size; simp at this; omega
  have hql := AL.quo_len (AL.runeL l)
  have hrl := AL.runeL_len l
  go_loopw [] (fun wr => ∃ (pos : Nat) (acc : List UInt8), Lib.IsBuilderF 74 5 w.heap.size w.heap.size (Lib.byteCells acc) wr ∧ wr.heap[W0.heap.size]? = some (.stringIter ⟨l.toArray⟩ pos) ∧ Below w.heap.size w wr ∧ acc ++ (AL.restR l pos).flatMap AL.quoR = 34 :: (AL.runeL l).flatMap AL.quoR) (fun wr => l.length - wr.iterPos W0.heap.size)
  case atStart =>
    refine ⟨0, [34], Lib.IsBuilderF.alloc (Or.inr h0) _, ?_, b00.alloc (by omega) _, rfl⟩
    exact World.iter_heap W0 _ 0
  case round =>
    obtain ⟨pos, acc, hI, hit, hbw, hacc⟩ := hrel
    have hsz : W0.heap.size < wr.heap.size := (Array.getElem?_eq_some_iff.1 hit).1
    have hal : acc.length ≤ 50000001 := by
      have := congrArg List.length hacc
      rw [List.length_append, List.length_cons] at this
      omega
    by_cases hp : pos < l.length
    · have hp' : pos < (ByteArray.mk l.toArray).size := by rw [AL.sizeT]; exact hp
      have hnx : ∀ ty, (Instr.next (.pointer (some ⟨W0.heap.size, 0, none⟩)) true ty).run Tryd.prog wr = _ := fun ty => Lib.run_next_any_at wr W0.heap.size ⟨l.toArray⟩ pos ty hit hp'
      have hwd := AL.decW_pos hp
      have hd1 := decode_le ⟨l.toArray⟩ pos
      have hI2 := hI.iterAt hit (pos + (Utf8.decode ⟨l.toArray⟩ pos).2)
      have hit2 := Lib.iterAt_heap wr W0.heap.size ⟨l.toArray⟩ pos (pos + (Utf8.decode ⟨l.toArray⟩ pos).2) hit
      have hbw2 := Lib.below_iterAt hbw (k := W0.heap.size) (by omega) ⟨l.toArray⟩ (pos + (Utf8.decode ⟨l.toArray⟩ pos).2)
      have hsz2 : w.heap.size ≤ (wr.iterAt W0.heap.size ⟨l.toArray⟩ (pos + (Utf8.decode ⟨l.toArray⟩ pos).2)).heap.size := by rw [Lib.iterAt_size]; omega
      rw [AL.restR_step hp, List.flatMap_cons] at hacc
      have er : AL.decR l pos = ((Utf8.decode ⟨l.toArray⟩ pos).1 : Int) := rfl
      have ew : AL.decW l pos = (Utf8.decode ⟨l.toArray⟩ pos).2 := rfl
      have heq : ∀ x, x = AL.quoR (AL.decR l pos) → (acc ++ x) ++ (AL.restR l (pos + (Utf8.decode ⟨l.toArray⟩ pos).2)).flatMap AL.quoR = 34 :: (AL.runeL l).flatMap AL.quoR := fun x hx => by
        rw [hx, ← ew, List.append_assoc]; exact hacc
      have b92 : Lib.byteCells [92] = [Value.int .u8 92] := rfl
      by_cases h34 : (Utf8.decode ⟨l.toArray⟩ pos).1 = 34
      · go_wp2_with (go_at_call 42; refine (wByte w.heap.size w.heap.size _ 92 _ hI2 (by rw [Lib.byteCells_length]; omega) hsz2).mono ?_)
        rintro e W1 ⟨rfl, h1, b1, k1⟩
        have hb1 := hbw2.trans b1
        go_wp2_with (go_at_call 43; refine (wRune w.heap.size w.heap.size _ _ (by omega) (by omega) _ (Or.inr h1) (by rw [List.length_append, Lib.byteCells_length]; simp; omega) hb1.size).mono ?_)
        rintro e W2 ⟨rfl, h2, b2, k2⟩
        go_wp2
        go_roundw
        case rel =>
          refine ⟨pos + (Utf8.decode ⟨l.toArray⟩ pos).2, acc ++ ([92] ++ Lib.encodeRune (Utf8.decode ⟨l.toArray⟩ pos).1), ?_, k2.iter (k1.iter hit2 (by omega)) (by omega), hb1.trans b2, heq _ ?_⟩
          · rw [Lib.byteCells_append, Lib.byteCells_append, Lib.byteCells_encodeRune, b92, ← List.append_assoc, h34]; exact Or.inr h2
          · rw [encodeRune_A, ← er, AL.quoR, er, h34]; rfl
        case measure =>
          simp only [World.iterPos, k2.iter (k1.iter hit2 (by omega)) (by omega), hit]
          omega
      · by_cases h92 : (Utf8.decode ⟨l.toArray⟩ pos).1 = 92
        · go_wp2_with (go_at_call 42; refine (wByte w.heap.size w.heap.size _ 92 _ hI2 (by rw [Lib.byteCells_length]; omega) hsz2).mono ?_)
          rintro e W1 ⟨rfl, h1, b1, k1⟩
          have hb1 := hbw2.trans b1
          go_wp2_with (go_at_call 43; refine (wRune w.heap.size w.heap.size _ _ (by omega) (by omega) _ (Or.inr h1) (by rw [List.length_append, Lib.byteCells_length]; simp; omega) hb1.size).mono ?_)
          rintro e W2 ⟨rfl, h2, b2, k2⟩
          go_wp2
          go_roundw
          case rel =>
            refine ⟨pos + (Utf8.decode ⟨l.toArray⟩ pos).2, acc ++ ([92] ++ Lib.encodeRune (Utf8.decode ⟨l.toArray⟩ pos).1), ?_, k2.iter (k1.iter hit2 (by omega)) (by omega), hb1.trans b2, heq _ ?_⟩
            · rw [Lib.byteCells_append, Lib.byteCells_append, Lib.byteCells_encodeRune, b92, ← List.append_assoc, h92]; exact Or.inr h2
            · rw [encodeRune_A, ← er, AL.quoR, er, h92]; rfl
          case measure =>
            simp only [World.iterPos, k2.iter (k1.iter hit2 (by omega)) (by omega), hit]
            omega
        · by_cases h10 : (Utf8.decode ⟨l.toArray⟩ pos).1 = 10
          · go_wp2_with (go_at_call 46; refine (wString w.heap.size w.heap.size _ _ _ hI2 (by rw [Lib.byteCells_length]; have : (ByteArray.mk #[92, 110]).size = 2 := rfl; omega) hsz2).mono ?_)
            rintro e W1 ⟨rfl, h1, b1, k1⟩
            go_wp2
            go_roundw
            case rel =>
              refine ⟨pos + (Utf8.decode ⟨l.toArray⟩ pos).2, acc ++ [92, 110], ?_, k1.iter hit2 (by omega), hbw2.trans b1, heq _ ?_⟩
              · rw [Lib.byteCells_append]; exact Or.inr h1
              · rw [AL.quoR, er, h10]; rfl
            case measure =>
              simp only [World.iterPos, k1.iter hit2 (by omega), hit]
              omega
          · go_wp2_with (go_at_call 43; refine (wRune w.heap.size w.heap.size _ _ (by omega) (by omega) _ hI2 (by rw [Lib.byteCells_length]; omega) hsz2).mono ?_)
            rintro e W1 ⟨rfl, h1, b1, k1⟩
            go_wp2
            go_roundw
            case rel =>
              refine ⟨pos + (Utf8.decode ⟨l.toArray⟩ pos).2, acc ++ Lib.encodeRune (Utf8.decode ⟨l.toArray⟩ pos).1, ?_, k1.iter hit2 (by omega), hbw2.trans b1, heq _ ?_⟩
              · rw [Lib.byteCells_append, Lib.byteCells_encodeRune]; exact Or.inr h1
              · rw [encodeRune_A, ← er, AL.quoR, if_neg (by omega), if_neg (by omega)]; rfl
            case measure =>
              simp only [World.iterPos, k1.iter hit2 (by omega), hit]
              omega
    · have hp' : ¬ pos < (ByteArray.mk l.toArray).size := by rw [AL.sizeT]; exact hp
      have hnx : ∀ ty, (Instr.next (.pointer (some ⟨W0.heap.size, 0, none⟩)) true ty).run Tryd.prog wr = _ := fun ty => Lib.run_next_end_at wr W0.heap.size ⟨l.toArray⟩ pos ty hit hp'
      go_wp2_with (go_at_call 42; refine (wByte w.heap.size w.heap.size _ 34 _ hI (by rw [Lib.byteCells_length]; omega) hbw.size).mono ?_)
      rintro e W1 ⟨rfl, h1, b1, k1⟩
      have hb1 := hbw.trans b1
      have b34 : Lib.byteCells acc ++ [Value.int .u8 34] = Lib.byteCells (acc ++ [34]) := by rw [Lib.byteCells_append]; rfl
      rw [b34] at h1
      go_wp2_with (go_at_call 44; refine (wStr w.heap.size w.heap.size (acc ++ [34]) _ (Or.inr h1) hb1.size).mono ?_)
      rintro e W2 ⟨rfl, _, b2, _⟩
      go_wp2
      go_ret
      rw [AL.restR_end (by omega), List.flatMap_nil, List.append_nil] at hacc
      have : AL.quoT l = acc ++ [34] := by rw [hacc, AL.quoT]; rfl
      rw [this]
      exact ⟨rfl, hb1.trans b2⟩
end Go.Proofs
