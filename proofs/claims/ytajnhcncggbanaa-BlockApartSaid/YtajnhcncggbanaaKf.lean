/-
  Seat 08 (block): contracts: numbers, clones, the law BlockSums.
-/
import Derived.Test.YtajnhcncggbanaaKd
namespace Go.Proofs.Ytajnhcncggbanaa
open Go.AL
set_option linter.unusedSimpArgs false
set_option linter.unusedVariables false
set_option maxHeartbeats 4000000
set_option maxRecDepth 20000

theorem word_bits (a b c d : Nat) (ha : a < 256) (hb : b < 256) (hc : c < 256) (hd : d < 256) :
    bits .or .u32 (bits .or .u32 (bits .or .u32 (IntKind.u32.wrap (IntKind.u32.wrap (a : Int) * 16777216)) (IntKind.u32.wrap (IntKind.u32.wrap (b : Int) * 65536))) (IntKind.u32.wrap (IntKind.u32.wrap (c : Int) * 256))) (IntKind.u32.wrap (d : Int)) =
      ((((a * 256 + b) * 256 + c) * 256 + d : Nat) : Int) := by
  have w : ∀ x m : Nat, x < 256 → x * m < 4294967296 → IntKind.u32.wrap (IntKind.u32.wrap (x : Int) * (m : Int)) = ((x * m : Nat) : Int) := by
    intro x m hx hm
    rw [wrap_u32_of (n := (x : Int)) (by omega) (by omega), ← Int.natCast_mul, wrap_u32_of (by omega) (by omega)]
  have w1 : IntKind.u32.wrap (IntKind.u32.wrap (a : Int) * 16777216) = ((a * 16777216 : Nat) : Int) := w a 16777216 ha (by omega)
  have w2 : IntKind.u32.wrap (IntKind.u32.wrap (b : Int) * 65536) = ((b * 65536 : Nat) : Int) := w b 65536 hb (by omega)
  have w3 : IntKind.u32.wrap (IntKind.u32.wrap (c : Int) * 256) = ((c * 256 : Nat) : Int) := w c 256 hc (by omega)
  have w4 : IntKind.u32.wrap (d : Int) = (d : Int) := wrap_u32_of (by omega) (by omega)
  have o : ∀ x y i : Nat, y < 2 ^ i → (x * 2 ^ i) ||| y = x * 2 ^ i + y := by
    intro x y i h
    have := Nat.shiftLeft_add_eq_or_of_lt h x
    rw [Nat.shiftLeft_eq] at this
    exact this.symm
  have o1 : (a * 16777216) ||| (b * 65536) = a * 16777216 + b * 65536 := o a (b * 65536) 24 (by omega)
  have o2 : (a * 16777216 + b * 65536) ||| (c * 256) = a * 16777216 + b * 65536 + c * 256 := by
    have := o (a * 256 + b) (c * 256) 16 (by omega)
    rw [show (a * 256 + b) * 2 ^ 16 = a * 16777216 + b * 65536 by omega] at this
    exact this
  have o3 : (a * 16777216 + b * 65536 + c * 256) ||| d = a * 16777216 + b * 65536 + c * 256 + d := by
    have := o ((a * 256 + b) * 256 + c) d 8 (by omega)
    rw [show ((a * 256 + b) * 256 + c) * 2 ^ 8 = a * 16777216 + b * 65536 + c * 256 by omega] at this
    exact this
  rw [w1, w2, w3, w4, u32_or_nat _ _ (by omega) (by omega), o1, u32_or_nat _ _ (by omega) (by omega), o2, u32_or_nat _ _ (by omega) (by omega), o3]
  omega

theorem word_ok : EntOk Try.prog wordE := by
  intro xs σ; simp only [wordE]; split
  · rename_i es s t
    intro hc σ'
    simp only [Bool.and_eq_true, decide_eq_true_eq] at hc
    obtain ⟨hw, hlen, hall⟩ := hc
    refine ACall.args ?_ (wkS1 t hw)
    clear hw s t
    simp only [holdA_eq]
    obtain ⟨l, rfl, hb⟩ := bv_of hall
    rw [bv_length] at hlen
    rw [map_natOf_bv]
    refine word_i _ _ _ (.of_none rfl) ?_
    have e0 : elemAt (bv l) 0 = _ := elemAt_bv l 0 (by omega)
    have e1 : elemAt (bv l) 1 = _ := elemAt_bv l 1 (by omega)
    have e2 : elemAt (bv l) 2 = _ := elemAt_bv l 2 (by omega)
    have e3 : elemAt (bv l) 3 = _ := elemAt_bv l 3 (by omega)
    rw [e0, e1, e2, e3]
    simp only [List.getD_cons_zero, AVal.intOf]
    refine gb_by (by simp [bv_length]; omega) (gb_by rfl (gb_by (by simp [bv_length]; omega) (gb_by rfl (gb_by (by simp [bv_length]; omega) (gb_by rfl (gb_by (by simp [bv_length]; omega) (gb_by rfl ⟨?_, trivial⟩)))))))
    have b0 := hb l[0] (List.getElem_mem _)
    have b1 := hb l[1] (List.getElem_mem _)
    have b2 := hb l[2] (List.getElem_mem _)
    have b3 := hb l[3] (List.getElem_mem _)
    have hw : wordN l = ((l[0] * 256 + l[1]) * 256 + l[2]) * 256 + l[3] := by
      match l, hlen with
      | a :: b :: c :: d :: r, _ => rfl
    rw [hw]
    generalize l[0] = a at b0 ⊢
    generalize l[1] = b at b1 ⊢
    generalize l[2] = c at b2 ⊢
    generalize l[3] = d at b3 ⊢
    rw [word_bits a b c d b0 b1 b2 b3]
  · trivial

theorem clone_ok : EntOk Try.prog cloneE := by
  intro xs σ; simp only [cloneE]; split
  · rename_i es s t
    intro hc σ'
    simp only [Bool.and_eq_true, decide_eq_true_eq] at hc
    obtain ⟨hw, hall, hlen⟩ := hc
    refine ACall.args ?_ (wkS1 t hw)
    clear hw s t
    obtain ⟨l, rfl, hb⟩ := bv_of hall
    rw [bv_length] at hlen
    refine ACall.pure (Q := fun r τ => τ.obj = σ'.obj ∧ (∀ q, q < σ'.nown → τ.own q = σ'.own q) ∧ ((l = [] ∧ r = .slice [] 0 .nil) ∨ ∃ p, r = .slice (bv l) 1 (.own p))) ?_ (by simp [AVal.noOut, noOutL, bv_noOut]) (by simp [AVal.noTok, noTokL, bv_noTok, Tag.below]) ?_
    · refine clone_i _ _ _ (.of_none rfl) ?_
      intro b hb1 _
      refine brV_by (fun h => ?_) (fun h => ?_)
      · have hl : l = [] := by
          have := hb1 (by simpa using h)
          cases l with
          | nil => rfl
          | cons a l => simp [bv] at this
        subst hl
        exact ⟨rfl, fun _ _ => rfl, Or.inl ⟨rfl, rfl⟩⟩
      · refine gb_by (by simp [bv_length]; omega) ⟨rfl, fun q hq => ?_, Or.inr ⟨_, rfl⟩⟩
        have : q ≠ σ'.nown := by omega
        simp [this]
    · rintro r τ ⟨h1, h2, h3⟩
      refine ⟨?_, fun i _ => by rw [h1], h2⟩
      rcases h3 with ⟨rfl, rfl⟩ | ⟨p, rfl⟩
      · exact Wk.nil _ _ _
      · exact Wk.ro _ _ _
  · trivial

theorem rfour_ok : EntOk Try.prog rfourE := by
  intro xs σ; simp only [rfourE]; split
  · rename_i n
    intro hc σ'
    exact rfour_i _ _ _ (.of_none rfl) ⟨rfl, rfl⟩
  · trivial

theorem awake_ok : EntOk Try.prog awakeE := by
  intro xs σ; simp only [awakeE]; split
  · intro hc σ'
    refine awake_i _ _ (.of [packE, sumE] rfl ⟨pack_ok, sum_ok, trivial⟩) ?_
    simp only [hold_eq, holdA_eq]
    have h1 : crcN (List.flatMap bytesV [.slice [.int .u8 49, .int .u8 50, .int .u8 51, .int .u8 52] 1 .full, .slice [.int .u8 53, .int .u8 54, .int .u8 55, .int .u8 56, .int .u8 57] 1 .full]) = 3421780262 := by decide +kernel
    have h2 : allN (List.map blkOf [.agg [.int .u8 7, .slice [.int .u8 97] 1 .full]]) = packN (7, [97]) := by simp [allN, blkOf, natOf, AVal.intOf]
    have h3 : bv (packN (7, [97])) = bv [203, 7, 0, 0, 0, 1, 97] ++ bv (fourN (crcN (headN (7, [97])))) := by rw [← bv_append]; rfl
    rw [h1, h2, h3]
    obtain ⟨a, b, c, d, hr⟩ : ∃ a b c d, fourN (crcN (headN (7, [97]))) = [a, b, c, d] := ⟨_, _, _, _, rfl⟩
    rw [hr]
    exact ⟨rfl, trivial⟩
  · trivial
end Go.Proofs.Ytajnhcncggbanaa
