/-
  Seat 02 (value): contracts: values out of bytes; the reference's bytes.
-/
import Derived.Test.YteohhklblbinbaaDoorVd
namespace Go.AL
theorem txtV_ne {c : UInt8} (hc : c ≠ 0) (r a : Txt) (i : Nat) : txtV (c :: r) a i = if a.length = 200 then ([], 0, 32) else txtV r (a ++ [c]) (i + 1) := by
  cases r with
  | nil => simp only [txtV, hc, if_false]
  | cons d r => simp only [txtV, hc, if_false]
def resT (y : Txt × Nat × Int) : AVal := .tuple [.agg [.int .i64 (if y.2.2 = 0 then 2 else 0), .int .i64 0, .str (if y.2.2 = 0 then y.1 else [])], .int .i64 (y.2.1 : Int), .int .i64 y.2.2]
def resV (y : Vl × Nat × Int) : AVal := .tuple [.agg [.int .i64 y.1.k, .int .i64 y.1.n, .str y.1.s], .int .i64 (y.2.1 : Int), .int .i64 y.2.2]
theorem u8_ne {c : UInt8} {m : Nat} (h : ((c.toNat : Int) == (m : Int)) = false) (hm : m < 256) : c ≠ UInt8.ofNat m := fun e => by
  subst e
  have : (UInt8.ofNat m).toNat = m := by simp; omega
  rw [this] at h
  simp at h
theorem u8_eqn {c : UInt8} {m : Nat} (h : ((c.toNat : Int) == (m : Int)) = true) (hm : m < 256) : c = UInt8.ofNat m := by
  have h1 : (c.toNat : Int) = m := by simpa using h
  refine UInt8.toNat_inj.1 ?_
  have : (UInt8.ofNat m).toNat = m := by simp; omega
  rw [this]; omega
theorem take_txt (r : Txt) : resT (txtV r [] 1) = resV (takeV (2 :: r)) := by
  unfold takeV
  simp only [if_true]
  unfold resT resV
  by_cases h : (txtV r [] 1).2.2 = 0
  · simp only [h, if_true]
  · simp only [h, if_false]; rfl
theorem num8_snoc (b : Txt) (c : UInt8) : num8 (b ++ [c]) = num8 b * 256 + c.toNat := by simp [num8]
theorem num8_acc : ∀ (b : Txt) (n : Nat), b.foldl (fun n x => n * 256 + x.toNat) n < (n + 1) * 256 ^ b.length
  | [], n => by simp
  | c :: b, n => by
    have h := num8_acc b (n * 256 + c.toNat)
    have hc := c.toNat_lt
    have h2 : (n * 256 + c.toNat + 1) * 256 ^ b.length ≤ ((n + 1) * 256) * 256 ^ b.length := Nat.mul_le_mul_right _ (by omega)
    rw [List.foldl_cons, List.length_cons, Nat.pow_succ, Nat.mul_comm (256 ^ b.length) 256, ← Nat.mul_assoc]
    omega
theorem num8_lt (b : Txt) : num8 b < 256 ^ b.length := by
  have := num8_acc b 0
  simpa [num8] using this
end Go.AL
namespace Go.Proofs.YteohhklblbinbaaDoor
open Go.AL
set_option linter.unusedSimpArgs false
set_option linter.unusedVariables false
set_option maxHeartbeats 2000000
set_option maxRecDepth 20000
theorem vtext_c (b : Txt) (hb : b.length ≤ 1000000) : ACall Tryd.prog 39 [.slice (bw b) 1 .ro] Sto.empty fun r _ => Wk r (resT (txtV (b.drop 1) [] 1)) := by
  refine vtext_i b _ (.of_none rfl) ?_
  generalize hX : txtV (b.drop 1) [] 1 = X
  refine loopV_intro (α := Txt × Nat) (fun x => vtextL_S b x.1 x.2) (fun x => 1 ≤ x.2 ∧ x.2 ≤ b.length + 1 ∧ x.1.length ≤ 200 ∧ X = txtV (b.drop x.2) x.1 x.2) (fun x => b.length - x.2) ?_ ([], 1) ⟨Nat.le_refl _, by simp, Nat.zero_le _, hX.symm⟩
  rintro ⟨a, i⟩ ⟨h1, hi, ha, hpre⟩ L hL
  simp only at h1 hi ha hpre
  refine Eq.mpr (vtextL_r b a i L _) ?_
  simp only [hold_eq]
  have hbl : (bw b).length = b.length := bw_length b
  have hal : (bw a).length = a.length := bw_length a
  refine brV_by (fun h => ?_) (fun h => ?_)
  · have hlt : i < b.length := by have := of_decide_eq_true h; omega
    rw [elemAt_bw b i hlt]
    have e0 : AVal.intOf (List.getD [AVal.int .u8 (b[i].toNat : Int)] 0 .undef) = (b[i].toNat : Int) := rfl
    rw [e0]
    have w1 : IntKind.i64.wrap ((i : Int) + 1) = ((i + 1 : Nat) : Int) := by rw [wrap_i64 (by omega) (by omega)]; omega
    rw [w1]
    have c0 := decide_eq_true (show (0 : Int) ≤ (i : Int) ∧ (i : Int) < ((bw b).length : Int) by omega)
    rw [List.drop_eq_getElem_cons hlt] at hpre
    refine gb_by c0 (gb_by rfl (brV_by (fun h => ?_) (fun h => ?_)))
    · have hz : b[i] = 0 := u8_zero h
      rw [hz] at hpre
      refine brV_by (fun h => ?_) (fun h => ?_)
      · have hl : i + 1 = b.length := by
          have : ((i + 1 : Nat) : Int) = ((bw b).length : Int) := by simpa using h
          omega
        rw [List.drop_of_length_le (by omega)] at hpre
        rw [hpre]
        exact Wk.refl _
      · have hl : i + 1 < b.length := by
          have : ¬ ((i + 1 : Nat) : Int) = ((bw b).length : Int) := by simpa using h
          omega
        have w2 : IntKind.i64.wrap (((i + 1 : Nat) : Int) + 1) = ((i + 2 : Nat) : Int) := by rw [wrap_i64 (by omega) (by omega)]; omega
        rw [elemAt_bw b (i + 1) hl, w2]
        have e1 : AVal.intOf (List.getD [AVal.int .u8 (b[i + 1].toNat : Int)] 0 .undef) = (b[i + 1].toNat : Int) := rfl
        rw [e1]
        have c1 := decide_eq_true (show (0 : Int) ≤ ((i + 1 : Nat) : Int) ∧ ((i + 1 : Nat) : Int) < ((bw b).length : Int) by omega)
        rw [List.drop_eq_getElem_cons hl, txtV, if_pos rfl] at hpre
        refine gb_by c1 (gb_by rfl (brV_by (fun h => ?_) (fun h => ?_)))
        · have hz : b[i + 1] = 0 := u8_zero h
          rw [if_pos hz] at hpre
          refine gb_by (dt (bw_isU8 a)) ?_
          rw [hpre, map_byteOf_bw]
          exact Wk.refl _
        · have hz : b[i + 1] ≠ 0 := u8_ne (m := 0) h (by decide)
          rw [if_neg hz] at hpre
          refine gb_by c1 (gb_by rfl (brV_by (fun h => ?_) (fun h => ?_)))
          · have hz : b[i + 1] ≠ 255 := u8_ne (m := 255) (by simpa using h) (by decide)
            rw [if_pos hz] at hpre
            rw [hpre]
            exact Wk.refl _
          · have hz : b[i + 1] = 255 := u8_eqn (m := 255) (by simpa using h) (by decide)
            rw [if_neg (by rw [hz]; decide)] at hpre
            rw [hal]
            refine brV_by (fun h => ?_) (fun h => ?_)
            · have h200 : (a.length : Int) = 200 := by simpa using h
              rw [if_pos (by omega)] at hpre
              rw [hpre]
              exact Wk.refl _
            · have h200 : ¬ (a.length : Int) = 200 := by simpa using h
              rw [if_neg (by omega)] at hpre
              refine gb_by (dt ⟨dt ⟨trivial, trivial, by omega, by omega⟩, trivial⟩) ?_
              have nxt := hL (a ++ [0], i + 2) ⟨by simp only; omega, by simp only; omega, by simp only [List.length_append, List.length_singleton]; omega, hpre⟩ (by simp only; omega)
              rw [setOwn_e1]
              have e3 : bw a ++ [AVal.int .u8 0] = bw (a ++ [0]) := by rw [bw_append]; rfl
              have e4 : a.length + 1 = (bw (a ++ [0])).length := by simp
              rw [e3, e4]
              exact nxt
    · have hz : b[i] ≠ 0 := u8_ne (m := 0) h (by decide)
      rw [txtV_ne hz] at hpre
      rw [hal]
      refine brV_by (fun h => ?_) (fun h => ?_)
      · have h200 : (a.length : Int) = 200 := by simpa using h
        rw [if_pos (by omega)] at hpre
        rw [hpre]
        exact Wk.refl _
      · have h200 : ¬ (a.length : Int) = 200 := by simpa using h
        rw [if_neg (by omega)] at hpre
        refine gb_by c0 (gb_by rfl (gb_by (dt ⟨dt ⟨trivial, trivial, by omega, by omega⟩, trivial⟩) ?_))
        have nxt := hL (a ++ [b[i]], i + 1) ⟨by simp only; omega, by simp only; omega, by simp only [List.length_append, List.length_singleton]; omega, hpre⟩ (by simp only; omega)
        rw [setOwn_e1]
        have e3 : bw a ++ [AVal.int .u8 (b[i].toNat : Int)] = bw (a ++ [b[i]]) := by rw [bw_append]; rfl
        have e4 : a.length + 1 = (bw (a ++ [b[i]])).length := by simp
        rw [e3, e4]
        exact nxt
  · have hge : b.length ≤ i := by have := of_decide_eq_false h; omega
    rw [List.drop_of_length_le hge] at hpre
    refine leaveTo (toCut (Eq.mpr (vtextF_r (bw a).length _) ?_))
    rw [hpre]
    exact Wk.refl _
theorem vtext_ok : EntOk Tryd.prog vtextE := by
  intro xs σ; simp only [vtextE]; split
  · rename_i es s t
    intro hc
    simp only [Bool.and_eq_true] at hc
    obtain ⟨h1, h2, h3⟩ := hc
    rw [hold_eq] at h3
    exact pcall_of (v := resT _) (.cons (wk_bw t h1 h2) (.refl _)) (vtext_c _ (by simpa using of_decide_eq_true h3)) (by simp only [noOutL, AVal.noOut, bw_noOut, Bool.and_true]) (by simp only [noTokL, AVal.noTok, bw_noTok, Bool.and_true, Tag.below]) rfl rfl
  · trivial
end Go.Proofs.YteohhklblbinbaaDoor
