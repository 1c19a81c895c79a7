/-
  Seat 08 (block): bytes as slices' elements.
-/
import Derived.Test.YtajnhcncggbanaaKe
namespace Go.Proofs.Ytajnhcncggbanaa
open Go.AL
set_option linter.unusedSimpArgs false
set_option linter.unusedVariables false

theorem bv_of {es : List AVal} (h : es.all byteOk = true) : ∃ l : List Nat, es = bv l ∧ Bytes l := by
  induction es with
  | nil => exact ⟨[], rfl, fun x hx => by cases hx⟩
  | cons e es ih =>
    simp only [List.all_cons, Bool.and_eq_true] at h
    obtain ⟨l, rfl, hl⟩ := ih h.2
    have h1 := h.1
    unfold byteOk at h1
    split at h1
    · rename_i n
      simp only [Bool.and_eq_true, decide_eq_true_eq] at h1
      refine ⟨n.toNat :: l, ?_, fun x hx => ?_⟩
      · simp only [bv, List.map_cons]
        rw [show ((n.toNat : Nat) : Int) = n by omega]
      · rcases List.mem_cons.1 hx with rfl | hx
        · omega
        · exact hl x hx
    · cases h1

theorem map_natOf_bv (l : List Nat) : (bv l).map natOf = l := by
  induction l with
  | nil => rfl
  | cons a l ih =>
    simp only [bv, List.map_cons] at ih ⊢
    rw [ih]
    rfl
theorem bv_length (l : List Nat) : (bv l).length = l.length := by simp [bv]
theorem bv_append (a b : List Nat) : bv (a ++ b) = bv a ++ bv b := by simp [bv]
theorem bv_take (a : List Nat) (n : Nat) : bv (a.take n) = (bv a).take n := by simp [bv, List.map_take]
theorem bv_drop (a : List Nat) (n : Nat) : bv (a.drop n) = (bv a).drop n := by simp [bv, List.map_drop]
theorem all_bv {l : List Nat} (h : Bytes l) : (bv l).all byteOk = true := by
  simp only [bv, List.all_map, List.all_eq_true]
  intro x hx
  have := h x hx
  simp [byteOk]; omega
theorem elemAt_bv (l : List Nat) (i : Nat) (h : i < l.length) : elemAt (bv l) (i : Int) = [.int .u8 ((l[i] : Nat) : Int)] := by
  rw [elemAt_get (by simpa [bv] using h)]
  simp [bv, AVal.cells]
theorem bv_noOut (n : Nat) (l : List Nat) : noOutL n (bv l) = true := by
  induction l with
  | nil => rfl
  | cons a l ih => simp only [bv, List.map_cons, noOutL, AVal.noOut, Bool.true_and] at ih ⊢; exact ih
theorem bv_noTok (n : Nat) (l : List Nat) : noTokL n (bv l) = true := by
  induction l with
  | nil => rfl
  | cons a l ih => simp only [bv, List.map_cons, noTokL, AVal.noTok, Bool.true_and] at ih ⊢; exact ih
theorem bv_isU8 (l : List Nat) : (bv l).all isU8 = true := by simp [bv, isU8]

theorem bytesV_of {v : AVal} (h : bytesOk v = true) : ∃ l s t, v = .slice (bv l) 1 t ∧ Bytes l ∧ l.length ≤ 140737488351232 ∧ bytesV v = l ∧ s = 1 := by
  unfold bytesOk at h
  split at h
  · rename_i es s t
    simp only [Bool.and_eq_true, beq_iff_eq, decide_eq_true_eq] at h
    obtain ⟨⟨rfl, h1⟩, h2⟩ := h
    obtain ⟨l, rfl, hl⟩ := bv_of h1
    exact ⟨l, 1, t, rfl, hl, by simpa [bv_length] using h2, by simp [bytesV, AVal.elems, map_natOf_bv], rfl⟩
  · cases h

theorem wrap_u8_of {n : Int} (h0 : 0 ≤ n) (h1 : n < 256) : IntKind.u8.wrap n = n := by rw [IntKind.wrap_u8']; omega
theorem wrap_u32_of {n : Int} (h0 : 0 ≤ n) (h1 : n < 4294967296) : IntKind.u32.wrap n = n := by rw [IntKind.wrap_u32']; omega

theorem tabGet (k : Nat) (h : k < 16) : List.getD [AVal.int IntKind.u32 0, .int .u32 498536548, .int .u32 997073096, .int .u32 651767980, .int .u32 1994146192, .int .u32 1802195444, .int .u32 1303535960, .int .u32 1342533948, .int .u32 3988292384, .int .u32 4027552580, .int .u32 3604390888, .int .u32 3412177804, .int .u32 2607071920, .int .u32 2262029012, .int .u32 2685067896, .int .u32 3183342108] (0 + Int.toNat ((k : Nat) : Int) * 1) AVal.undef = .int .u32 ((crcTab.getD k 0 : Nat) : Int) := by
  simp only [Int.toNat_natCast, Nat.mul_one, Nat.zero_add]
  have : ∀ k, k < 16 → List.getD [AVal.int IntKind.u32 0, .int .u32 498536548, .int .u32 997073096, .int .u32 651767980, .int .u32 1994146192, .int .u32 1802195444, .int .u32 1303535960, .int .u32 1342533948, .int .u32 3988292384, .int .u32 4027552580, .int .u32 3604390888, .int .u32 3412177804, .int .u32 2607071920, .int .u32 2262029012, .int .u32 2685067896, .int .u32 3183342108] k AVal.undef = .int .u32 ((crcTab.getD k 0 : Nat) : Int) := by
    intro k hk
    match k, hk with
    | 0, _ => rfl | 1, _ => rfl | 2, _ => rfl | 3, _ => rfl | 4, _ => rfl | 5, _ => rfl | 6, _ => rfl | 7, _ => rfl
    | 8, _ => rfl | 9, _ => rfl | 10, _ => rfl | 11, _ => rfl | 12, _ => rfl | 13, _ => rfl | 14, _ => rfl | 15, _ => rfl
    | k + 16, h => omega
  exact this k h

theorem xor32 (a b : Nat) (ha : a < 4294967296) (hb : b < 4294967296) : bits .xor .u32 (a : Int) (b : Int) = ((a ^^^ b : Nat) : Int) := u32_xor_nat a b ha hb
theorem and15 (a : Nat) (ha : a < 4294967296) : bits .and .u32 (a : Int) 15 = ((a % 16 : Nat) : Int) := by
  have := u32_and_nat a 15 ha (by decide)
  rw [nat_mask4] at this
  exact this
theorem fdiv16 (a : Nat) : Int.fdiv (a : Int) 16 = ((a / 16 : Nat) : Int) := by rw [Int.fdiv_eq_ediv_of_nonneg _ (by decide)]; rfl
theorem tdiv2 (a : Nat) : Int.tdiv (a : Int) 2 = ((a / 2 : Nat) : Int) := by rw [Int.tdiv_eq_ediv_of_nonneg (by omega)]; rfl
theorem tmod2 (a : Nat) : Int.tmod (a : Int) 2 = ((a % 2 : Nat) : Int) := by rw [Int.tmod_eq_emod_of_nonneg (by omega)]; rfl

theorem wkS {n s : Nat} {es : List AVal} (t : Tag) (h : okS n s es = true) : Wk (.slice es s t) (.slice es n .ro) := by
  simp only [okS, Bool.or_eq_true, beq_iff_eq] at h
  rcases h with rfl | h
  · exact Wk.ro es s t
  · have : es = [] := List.isEmpty_iff.1 h
    subst this
    exact Wk.nil s n t
theorem wkS1 {n s : Nat} {es : List AVal} (t : Tag) (h : okS n s es = true) : WkL [.slice es s t] [.slice es n .ro] := .cons (wkS t h) (.refl _)
end Go.Proofs.Ytajnhcncggbanaa
