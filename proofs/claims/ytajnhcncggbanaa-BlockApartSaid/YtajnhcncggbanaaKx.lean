/-
  Seat 08 (block): contracts: the document's blocks as bytes; the laws.
-/
import Derived.Test.YtajnhcncggbanaaKv
import Derived.Test.YtajnhcncggbanaaKw
namespace Go.Proofs.Ytajnhcncggbanaa
open Go.AL
set_option linter.unusedSimpArgs false
set_option linter.unusedVariables false
set_option maxHeartbeats 4000000
set_option maxRecDepth 20000

theorem rpack_head (k : Nat) (l : List Nat) (hle : l.length ≤ 1048576) : [AVal.int .u8 203, AVal.int .u8 (k : Int), .int .u8 (IntKind.u8.wrap (IntKind.u32.wrap ((IntKind.u32.wrap (l.length : Int)).tdiv 16777216))), .int .u8 (IntKind.u8.wrap (IntKind.u32.wrap ((IntKind.u32.wrap (l.length : Int)).tdiv 65536))), .int .u8 (IntKind.u8.wrap (IntKind.u32.wrap ((IntKind.u32.wrap (l.length : Int)).tdiv 256))), .int .u8 (IntKind.u8.wrap (IntKind.u32.wrap (l.length : Int)))] ++ bv l = bv (headN (k, l)) := by
  have h := rfour_bv l.length (by omega)
  have e : IntKind.u32.wrap (l.length : Int) = (l.length : Int) := wrap_u32_of (by omega) (by omega)
  rw [e]
  simp only [headN, bv, List.map_cons, List.map_append, List.cons_append] at h ⊢
  rw [← h]
  simp

theorem rpack_c (k : Nat) (l : List Nat) (hb : BlkOk (k, l)) : ACall Try.prog 24 [.agg [.int .u8 (k : Int), .slice (bv l) 1 .ro]] Sto.empty fun r _ => Wk r (.slice (bv (packN (k, l))) 1 .ro) := by
  refine rpack_i _ _ _ (.of [rsumE, rfourE] rfl ⟨rsum_ok, rfour_ok, trivial⟩) ?_
  have hle : l.length ≤ 1048576 := hb.2.2
  simp only [holdA_eq, bv_length]
  rw [rpack_head k l hle, map_natOf_bv]
  have hh := headN_length (k, l)
  simp only [] at hh
  have hc := crcN_lt (headN_bytes hb)
  rw [rfour_bv _ hc, ← bv_append]
  refine gb_by (by simp; omega) (gb_by (by simp [okS_same, all_bv (headN_bytes hb), bv_length]; omega) (gb_by (by simp [bv_length]; omega) ?_))
  exact Wk.ro _ _ _

theorem rpack_ok : EntOk Try.prog rpackE := by
  intro xs σ; simp only [rpackE]; split
  · rename_i k es t
    intro hc
    obtain ⟨k', l, t', he, hb, hbo⟩ := blk_of hc
    simp only [AVal.agg.injEq, List.cons.injEq, AVal.int.injEq, AVal.slice.injEq, true_and, and_true] at he
    obtain ⟨rfl, rfl, rfl⟩ := he
    simp only [holdA_eq, map_natOf_bv, Int.toNat_natCast]
    exact pcall_of (.cons (.agg (.cons (.refl _) (.cons (Wk.ro _ _ _) (.refl _)))) (.refl _)) (rpack_c k' l hb) (by simp [noOutL, AVal.noOut, bv_noOut]) (by simp [noTokL, AVal.noTok, bv_noTok, Tag.below]) (by simp [AVal.noOut, bv_noOut]) (by simp [AVal.noTok, bv_noTok, Tag.below])
  · trivial

theorem all_c (xs : List Blk) (hx : ∀ x ∈ xs, BlkOk x) (hl : xs.length ≤ 1000) : ACall Try.prog 19 [.slice (xs.map blkV) 2 .ro] Sto.empty fun r _ => Wk r (.slice (bv (allN xs)) 1 .ro) := by
  refine all_i _ _ (.of [rpackE] rfl ⟨rpack_ok, trivial⟩) ?_
  refine loopV_intro (α := Nat) (fun i => allL_S xs (allN (xs.take i)) i) (fun i => i ≤ xs.length) (fun i => xs.length - i) ?_ 0 (Nat.zero_le _)
  intro i hi L hL
  refine Eq.mpr (allL_r xs _ i L _) ?_
  simp only [hold_eq, holdA_eq, List.length_map]
  refine brV_by (fun h => ?_) (fun h => ?_)
  · have hlt : i < xs.length := by simpa using h
    have hxi := hx xs[i] (List.getElem_mem hlt)
    have hbig := allN_len hx i
    have h3 : i * 1048586 ≤ 1000 * 1048586 := Nat.mul_le_mul_right _ (by omega)
    have hpl := packN_length xs[i]
    have hle := hxi.2.2
    rw [elemAt_blk xs i hlt]
    simp only [List.getD_cons_zero, List.getD_cons_succ, AVal.elems, AVal.intOf, map_natOf_bv, Int.toNat_natCast, i64_succ hlt (by omega), bv_length]
    have := hL (i + 1) hlt (by omega)
    simp only [allL_S, allN_take hlt, bv_append, List.length_append, bv_length] at this
    rw [setOwn_e1]
    refine gb_by (dt (by omega)) (gb_by rfl (gb_by (by simp [blkOk, all_bv hxi.2.1, bv_length, hle]; have := hxi.1; omega) (gb_by (by have hpl : (packN (xs[i].1, xs[i].2)).length = 10 + xs[i].2.length := hpl; simp; omega) this)))
  · have hge : ¬ i < xs.length := by simpa using h
    refine leaveTo (toCut (Eq.mpr (allF_r _ _) ?_))
    rw [List.take_of_length_le (by omega)]
    exact Wk.ro _ _ _

theorem all_ok : EntOk Try.prog allE := by
  intro xs σ; simp only [allE]; split
  · rename_i es s t
    intro hc
    simp only [Bool.and_eq_true, decide_eq_true_eq] at hc
    obtain ⟨hw, hall, hlen⟩ := hc
    simp only [holdA_eq]
    exact pcall_of (.cons (wk_blks t hw hall) (.refl _)) (all_c _ (blks_ok hall) (by simpa using hlen)) (by simp only [noOutL, AVal.noOut, noOut_blks, Bool.and_true]) (by simp only [noTokL, AVal.noTok, noTok_blks, Tag.below, Bool.and_true]) (by simp [AVal.noOut, bv_noOut]) (by simp [AVal.noTok, bv_noTok, Tag.below])
  · trivial
end Go.Proofs.Ytajnhcncggbanaa
