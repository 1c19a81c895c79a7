/-
  Seat 02 (value): contracts: the reference's bytes; the order of values.
-/
import Derived.Test.YteohhklblbinbaaDoorVh
import Derived.Test.YteohhklblbinbaaDoorVz
namespace Go.Proofs.YteohhklblbinbaaDoor
open Go.AL
set_option linter.unusedSimpArgs false
set_option linter.unusedVariables false
set_option maxHeartbeats 2000000
set_option maxRecDepth 20000
theorem bytesR_c (k n : Int) (s : Txt) (h0 : -9223372036854775808 ≤ n) (h1 : n ≤ 9223372036854775807) (hs : s.length ≤ 1000000) : ACall Tryd.prog 24 [.agg [.int .i64 k, .int .i64 n, .str s]] Sto.empty
    fun r _ => Wk r (.slice (bw (bytesV ⟨k, n, s⟩)) 1 .ro) := by
  refine bytesR_i k n s _ (.of_none rfl) ?_
  simp only [hold_eq]
  refine brV_by (fun h => ?_) (fun h => ?_)
  · have hk : k = 1 := by simpa using h
    have hbv : bytesV ⟨k, n, s⟩ = 1 :: be8 (n + 9223372036854775808).toNat := if_pos hk
    rw [hbv]
    have w0 : IntKind.u64.wrap (IntKind.u64.wrap n + 9223372036854775808) = ((n + 9223372036854775808).toNat : Int) := by rw [IntKind.wrap_u64, IntKind.wrap_u64]; omega
    rw [w0]
    have hU := numOf_bound h0 h1
    generalize (n + 9223372036854775808).toNat = U at *
    refine loopV_intro (α := Nat × Nat) (fun x => bytesRN_S k n s ((be8 U).drop (8 - x.2)) x.1 x.2) (fun x => x.2 ≤ 8 ∧ x.1 = U / 256 ^ x.2) (fun x => 8 - x.2) ?_ (U, 0) ⟨Nat.zero_le _, by rw [Nat.pow_zero, Nat.div_one]⟩
    rintro ⟨u, i⟩ ⟨hi, hu⟩ L hL
    simp only at hi hu
    subst hu
    refine Eq.mpr (bytesRN_r k n s ((be8 U).drop (8 - i)) (U / 256 ^ i) i L _) ?_
    simp only [hold_eq]
    have hl : (bw ((be8 U).drop (8 - i))).length = i := by rw [bw_length, List.length_drop, be8_len]; omega
    refine brV_by (fun h => ?_) (fun h => ?_)
    · have hlt : i < 8 := by have := of_decide_eq_true h; omega
      have nxt := hL (U / 256 ^ (i + 1), i + 1) ⟨hlt, rfl⟩ (by simp only; omega)
      refine gb_by (dt ⟨dt ⟨trivial, by omega, by omega⟩, trivial⟩) ?_
      have e1 : IntKind.u8.wrap (Int.tmod ((U / 256 ^ i : Nat) : Int) 256) = ((byteAt U i).toNat : Int) := by
        rw [byteAt_nat, IntKind.wrap_u8, Int.tmod_eq_emod_of_nonneg (Int.natCast_nonneg _)]
        omega
      have e2 : IntKind.u64.wrap (Int.tdiv ((U / 256 ^ i : Nat) : Int) 256) = ((U / 256 ^ (i + 1) : Nat) : Int) := by
        have key : ∀ q : Nat, q ≤ U → IntKind.u64.wrap (Int.tdiv (q : Int) 256) = ((q / 256 : Nat) : Int) := fun q hq => by
          rw [IntKind.wrap_u64, Int.tdiv_eq_ediv_of_nonneg (Int.natCast_nonneg _)]
          omega
        rw [Nat.pow_succ, ← Nat.div_div_eq_div_mul]
        exact key _ (Nat.div_le_self _ _)
      have e3 : [AVal.int .u8 ((byteAt U i).toNat : Int)] ++ bw ((be8 U).drop (8 - i)) = bw ((be8 U).drop (8 - (i + 1))) := by
        rw [show 8 - (i + 1) = 7 - i by omega, be8_drop U i hlt]; rfl
      rw [e1, e2, e3, i64_succ hlt (by omega)]
      exact nxt
    · have hge : i = 8 := by have := of_decide_eq_false h; omega
      subst hge
      refine leaveTo (toCut (Eq.mpr (bytesRNF_r k n s _ _) ?_))
      have : (be8 U).drop (8 - 8) = be8 U := rfl
      rw [this] at hl ⊢
      refine gb_by (dt ⟨dt ⟨rfl, by omega, by omega⟩, rfl⟩) ?_
      exact Wk.refl _
  · have hk : ¬ k = 1 := by simpa using h
    have hbv : bytesV ⟨k, n, s⟩ = 2 :: (escT s ++ [0, 0]) := if_neg hk
    rw [hbv]
    refine loopV_intro (α := Nat) (fun i => bytesRT_S k n s (2 :: escT (s.take i)) i) (fun i => i ≤ s.length) (fun i => s.length - i) ?_ 0 (Nat.zero_le _)
    rintro i hi L hL
    refine Eq.mpr (bytesRT_r k n s (2 :: escT (s.take i)) i L _) ?_
    simp only [hold_eq]
    have hel := escT_len (s.take i)
    have htl : (s.take i).length ≤ s.length := by rw [List.length_take]; omega
    have hl : (bw (2 :: escT (s.take i))).length = (escT (s.take i)).length + 1 := by rw [bw_length, List.length_cons]
    refine brV_by (fun h => ?_) (fun h => ?_)
    · have hlt : i < s.length := by have := of_decide_eq_true h; omega
      have t0 : Int.toNat (i : Int) = i := rfl
      rw [t0, getD_at _ _ hlt, i64_succ hlt (by omega)]
      have c1 := decide_eq_true (show (0 : Int) ≤ (i : Int) ∧ (i : Int) < (s.length : Int) by omega)
      have nxt := hL (i + 1) hlt (by omega)
      refine gb_by c1 (brV_by (fun h => ?_) (fun h => ?_))
      · have hz : s[i] = 0 := u8_zero h
        have e3 : bw (2 :: escT (s.take i)) ++ [AVal.int .u8 0, AVal.int .u8 255] = bw (2 :: escT (s.take (i + 1))) := by
          rw [escT_take s i hlt, hz]
          show _ = bw ((2 :: escT (s.take i)) ++ [0, 255])
          rw [bw_append]; rfl
        have e4 : (bw (2 :: escT (s.take i))).length + 2 = (bw (2 :: escT (s.take (i + 1)))).length := by rw [← e3]; simp
        refine gb_by (dt ⟨dt ⟨trivial, trivial, by omega, by omega⟩, trivial⟩) ?_
        rw [setOwn_e1, e3, e4]
        exact nxt
      · have hz : ¬ s[i] = 0 := fun hz => by rw [hz] at h; cases h
        have e3 : bw (2 :: escT (s.take i)) ++ [AVal.int .u8 (s[i].toNat : Int)] = bw (2 :: escT (s.take (i + 1))) := by
          rw [escT_take s i hlt, escB, if_neg hz]
          show _ = bw ((2 :: escT (s.take i)) ++ [s[i]])
          rw [bw_append, bw_one]
        have e5 : (bw (2 :: escT (s.take i))).length + 1 = (bw (2 :: escT (s.take (i + 1)))).length := by rw [← e3]; simp
        refine gb_by c1 (gb_by (dt ⟨dt ⟨trivial, trivial, by omega, by omega⟩, trivial⟩) ?_)
        rw [setOwn_e1, e3, e5]
        exact nxt
    · have hge : i = s.length := by have := of_decide_eq_false h; omega
      subst hge
      rw [List.take_length] at hl hel ⊢
      refine leaveTo (toCut (Eq.mpr (bytesRTF_r _ _) ?_))
      refine gb_by (dt ⟨dt ⟨rfl, rfl, by omega, by omega⟩, rfl⟩) ?_
      have e3 : bw (2 :: escT s) ++ [AVal.int .u8 0, .int .u8 0] = bw (2 :: (escT s ++ [0, 0])) := by
        show _ = bw ((2 :: escT s) ++ [0, 0])
        rw [bw_append]; rfl
      rw [e3]
      exact Wk.ro _ _ _
theorem bytesR_ok : EntOk Tryd.prog bytesRE := by
  intro xs σ; simp only [bytesRE]; split
  · rename_i k n s
    intro hc
    rw [Bool.and_eq_true] at hc
    have hn := i64r_of hc.1
    exact pcall_of (v := .slice _ 1 .ro) (.refl _) (bytesR_c k n s hn.1 hn.2 (lenT_of hc.2)) rfl rfl (by simp only [AVal.noOut, bw_noOut]) (by simp only [AVal.noTok, bw_noTok, Tag.below, Bool.and_true])
  · trivial
theorem cmpB_lib : ∀ a b : Txt, Lib.compareBytes a b = cmpB a b
  | [], [] => rfl
  | [], _ :: _ => rfl
  | _ :: _, [] => rfl
  | x :: a, y :: b => by
    have ih := cmpB_lib a b
    simp only [Lib.compareBytes, cmpB, ih, UInt8.lt_iff_toNat_lt]
theorem scmp_ok : EntOk Tryd.prog scmpE := by
  intro xs σ; simp only [scmpE]; split
  · rename_i a b
    intro _
    refine PCall.ofSame fun γ w vs hr => ?_
    obtain ⟨u, v, rfl, hu, hv⟩ := repL2 hr
    have hu := repStr hu
    have hv := repStr hv
    subst hu; subst hv
    exact (Tryd.strings_Compare ⟨a.toArray⟩ ⟨b.toArray⟩ w).mono fun e w' ⟨he, hw⟩ => ⟨_, he, by rw [← cmpB_lib]; exact .int false _ _, hw⟩
  · trivial
theorem compare_ok : EntOk Tryd.prog compareE := by
  intro xs σ; simp only [compareE]; split
  · rename_i k n s k' n' s'
    intro _
    refine pcall_of (v := .int .i64 _) (.refl _) (compare_i k n k' n' s s' _ (.of [cmpE, scmpE, orE] rfl ⟨cmp_ok, scmp_ok, or_ok, trivial⟩) ?_) rfl rfl rfl rfl
    intro y hy y1 hy1 y2 hy2 y3 hy3
    refine gb_by (and_tt rfl (lenOk_mk (by omega))) ?_
    have : y3 = cmpV ⟨k, n, s⟩ ⟨k', n', s'⟩ := by
      rw [hy3, hy, hy1, hy2]
      unfold cmpV
      by_cases h1 : sgI k k' = 0
      · by_cases h2 : sgI n n' = 0
        · simp only [firstNZ, h1, h2, if_true, ne_eq, not_true, if_false]
          split
          · rename_i h3; exact h3.symm
          · rfl
        · simp only [firstNZ, h1, h2, if_true, ne_eq, not_true, if_false, not_false_iff]
      · simp only [firstNZ, h1, if_true, ne_eq, if_false, not_false_iff]
    rw [this]; exact Wk.refl _
  · trivial
end Go.Proofs.YteohhklblbinbaaDoor
