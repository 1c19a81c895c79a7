/-
  Seat 02 (value): contracts: values as bytes.
-/
import Derived.Test.YteohhklblbinbaaDoorVc
namespace Go.AL
theorem be8_len (u : Nat) : (be8 u).length = 8 := rfl
theorem escT_append (a b : Txt) : escT (a ++ b) = escT a ++ escT b := by simp [escT]
theorem escT_take (s : Txt) (i : Nat) (h : i < s.length) : escT (s.take (i + 1)) = escT (s.take i) ++ escB s[i] := by
  rw [List.take_add_one, List.getElem?_eq_getElem h, escT_append]
  simp [escT]
theorem u8_zero {c : UInt8} (h : ((c.toNat : Int) == 0) = true) : c = 0 := by
  have h1 : (c.toNat : Int) = 0 := by simpa using h
  refine UInt8.toNat_inj.1 ?_
  show c.toNat = 0
  omega
theorem bw_one (c : UInt8) : [AVal.int .u8 (c.toNat : Int)] = bw [c] := rfl
theorem u8_byte (u j : Nat) : IntKind.u8.wrap ((u / 256 ^ j : Nat) : Int) = ((byteAt u j).toNat : Int) := by
  rw [byteAt_nat, IntKind.wrap_u8]
  omega
theorem be8_take (u i : Nat) (h : i < 8) : (be8 u).take (i + 1) = (be8 u).take i ++ [byteAt u (7 - i)] := by
  rw [List.take_add_one]
  match i, h with
  | 0, _ => rfl
  | 1, _ => rfl
  | 2, _ => rfl
  | 3, _ => rfl
  | 4, _ => rfl
  | 5, _ => rfl
  | 6, _ => rfl
  | 7, _ => rfl
theorem be8_drop (u i : Nat) (h : i < 8) : (be8 u).drop (7 - i) = byteAt u i :: (be8 u).drop (8 - i) := by
  match i, h with
  | 0, _ => rfl
  | 1, _ => rfl
  | 2, _ => rfl
  | 3, _ => rfl
  | 4, _ => rfl
  | 5, _ => rfl
  | 6, _ => rfl
  | 7, _ => rfl
end Go.AL
namespace Go.Proofs.YteohhklblbinbaaDoor
open Go.AL
set_option linter.unusedSimpArgs false
set_option linter.unusedVariables false
set_option maxHeartbeats 2000000
set_option maxRecDepth 20000
theorem numOf_bound {n : Int} (h0 : -9223372036854775808 ≤ n) (h1 : n ≤ 9223372036854775807) : (n + 9223372036854775808).toNat < 18446744073709551616 := by omega
theorem bytes_c (k n : Int) (s : Txt) (h0 : -9223372036854775808 ≤ n) (h1 : n ≤ 9223372036854775807) : ACall Tryd.prog 11 [.agg [.int .i64 k, .int .i64 n, .str s]] Sto.empty
    fun r _ => Wk r (.tuple [.slice (bw (if okV ⟨k, n, s⟩ = true then bytesV ⟨k, n, s⟩ else [])) 1 .ro, .int .i64 (if okV ⟨k, n, s⟩ = true then 0 else 22)]) := by
  refine bytes_i k n s _ (.of [thingE] rfl ⟨thing_ok, trivial⟩) ?_
  have hb := okV_b k n s
  simp only [hold_eq]
  refine brV_by (fun h => ?_) (fun h => ?_)
  · have hk := of_decide_eq_true h
    have hok : okV ⟨k, n, s⟩ = true := by rw [hb, h]; rfl
    rw [if_pos hok, if_pos hok]
    have hbv : bytesV ⟨k, n, s⟩ = 1 :: be8 (n + 9223372036854775808).toNat := if_pos hk.1
    rw [hbv]
    have hU := numOf_bound h0 h1
    have hx := sign_num n h0 h1
    generalize (n + 9223372036854775808).toNat = U at *
    refine loopV_intro (α := Nat) (fun i => bytesN_S n (1 :: (be8 U).take i) (56 - 8 * (i : Int))) (fun i => i ≤ 8) (fun i => 8 - i) ?_ 0 (Nat.zero_le _)
    rintro i hi L hL
    refine Eq.mpr (bytesN_r n (1 :: (be8 U).take i) (56 - 8 * (i : Int)) L _) ?_
    simp only [hold_eq]
    have hl : (bw (1 :: (be8 U).take i)).length = i + 1 := by rw [bw_length, List.length_cons, List.length_take, be8_len]; omega
    refine brV_by (fun h => ?_) (fun h => ?_)
    · have hlt : i < 8 := by have := of_decide_eq_true h; omega
      have nxt := hL (i + 1) hlt (by omega)
      refine gb_by h (gb_by (dt ⟨dt ⟨trivial, trivial, by omega, by omega⟩, trivial⟩) ?_)
      rw [setOwn_e1]
      have e1 : IntKind.u8.wrap (Int.fdiv (bits .xor .u64 (IntKind.u64.wrap n) 9223372036854775808) (2 ^ min (Int.toNat (56 - 8 * (i : Int))) 64)) = ((byteAt U (7 - i)).toNat : Int) := by
        rw [hx, ← u8_byte]
        have t : Int.toNat (56 - 8 * (i : Int)) = 8 * (7 - i) := by omega
        rw [t, Nat.min_eq_left (by omega)]
        have p : (2 : Int) ^ (8 * (7 - i)) = ((256 ^ (7 - i) : Nat) : Int) := by
          rw [Int.natCast_pow, show (((256 : Nat) : Int)) = 2 ^ 8 by decide, ← Int.pow_mul]
        rw [p]
        rw [Int.fdiv_eq_ediv_of_nonneg _ (Int.natCast_nonneg _), ← Int.natCast_ediv]
      have e2 : IntKind.i64.wrap (56 - 8 * (i : Int) - 8) = 56 - 8 * ((i + 1 : Nat) : Int) := by rw [wrap_i64 (by omega) (by omega)]; omega
      have e3 : bw (1 :: (be8 U).take i) ++ [AVal.int .u8 ((byteAt U (7 - i)).toNat : Int)] = bw (1 :: (be8 U).take (i + 1)) := by
        rw [bw_one, ← bw_append, be8_take U i hlt]; rfl
      have e4 : (bw (1 :: (be8 U).take i)).length + 1 = (bw (1 :: (be8 U).take (i + 1))).length := by
        rw [hl, bw_length, List.length_cons, List.length_take, be8_len]; omega
      rw [e1, e2, e3, e4]
      exact nxt
    · have hge : i = 8 := by have := of_decide_eq_false h; omega
      subst hge
      refine leaveTo (toCut (Eq.mpr (bytesNF_r n _ _) ?_))
      have : (be8 U).take 8 = be8 U := List.take_of_length_le (by rw [be8_len]; omega)
      rw [this]
      exact Wk.tuple (.cons (Wk.ro _ _ _) (.refl _))
  · refine brV_by (fun h2 => ?_) (fun h2 => ?_)
    · have hk := of_decide_eq_true h2
      have hok : okV ⟨k, n, s⟩ = true := by rw [hb, h2, Bool.or_true]
      rw [if_pos hok, if_pos hok]
      have hbv : bytesV ⟨k, n, s⟩ = 2 :: (escT s ++ [0, 0]) := if_neg (by show ¬ k = 1; omega)
      rw [hbv]
      refine loopV_intro (α := Nat) (fun i => bytesT_S s (2 :: escT (s.take i)) s.length i) (fun i => i ≤ s.length) (fun i => s.length - i) ?_ 0 (Nat.zero_le _)
      rintro i hi L hL
      refine Eq.mpr (bytesT_r s (2 :: escT (s.take i)) s.length i L _) ?_
      simp only [hold_eq]
      have hel := escT_len (s.take i)
      rw [List.length_take] at hel
      have hl : (bw (2 :: escT (s.take i))).length = (escT (s.take i)).length + 1 := by rw [bw_length, List.length_cons]
      refine brV_by (fun h => ?_) (fun h => ?_)
      · have hlt : i < s.length := by have := of_decide_eq_true h; omega
        have t0 : Int.toNat (i : Int) = i := rfl
        rw [t0, getD_at _ _ hlt, i64_succ hlt (by omega)]
        have c1 := decide_eq_true (show (0 : Int) ≤ (i : Int) ∧ (i : Int) < (s.length : Int) by omega)
        have nxt := hL (i + 1) hlt (by omega)
        refine gb_by c1 (gb_by (dt ⟨dt ⟨trivial, trivial, by omega, by omega⟩, trivial⟩) (gb_by c1 (brV_by (fun h => ?_) (fun h => ?_))))
        · have hz : s[i] = 0 := u8_zero h
          have e3 : bw (2 :: escT (s.take i)) ++ [AVal.int .u8 (s[i].toNat : Int)] ++ [AVal.int .u8 255] = bw (2 :: escT (s.take (i + 1))) := by
            rw [escT_take s i hlt, hz]
            show _ = bw ((2 :: escT (s.take i)) ++ [0, 255])
            rw [bw_append, List.append_assoc]; rfl
          have e4 : (bw (2 :: escT (s.take (i + 1)))).length = (bw (2 :: escT (s.take i))).length + 2 := by rw [← e3]; simp
          refine gb_by (dt ⟨dt ⟨trivial, by simp, by simp; omega, by simp; omega⟩, trivial⟩) ?_
          rw [setOwn_e1, setOwn_e1, e3]
          have e5 : (bw (2 :: escT (s.take i)) ++ [AVal.int .u8 (s[i].toNat : Int)]).length + 1 = (bw (2 :: escT (s.take (i + 1)))).length := by rw [e4]; simp
          rw [e5]
          exact nxt
        · have hz : ¬ s[i] = 0 := fun hz => by rw [hz] at h; cases h
          have e3 : bw (2 :: escT (s.take i)) ++ [AVal.int .u8 (s[i].toNat : Int)] = bw (2 :: escT (s.take (i + 1))) := by
            rw [escT_take s i hlt, escB, if_neg hz]
            show _ = bw ((2 :: escT (s.take i)) ++ [s[i]])
            rw [bw_append, bw_one]
          rw [setOwn_e1, e3]
          have e5 : (bw (2 :: escT (s.take i))).length + 1 = (bw (2 :: escT (s.take (i + 1)))).length := by rw [← e3]; simp
          rw [e5]
          exact nxt
      · have hge : i = s.length := by have := of_decide_eq_false h; omega
        subst hge
        rw [List.take_length] at hl hel ⊢
        refine leaveTo (toCut (Eq.mpr (bytesTF_r _ _) ?_))
        refine gb_by (dt ⟨dt ⟨rfl, rfl, by omega, by omega⟩, rfl⟩) ?_
        have e3 : bw (2 :: escT s) ++ [AVal.int .u8 0, .int .u8 0] = bw (2 :: (escT s ++ [0, 0])) := by
          show _ = bw ((2 :: escT s) ++ [0, 0])
          rw [bw_append]; rfl
        rw [e3]
        exact Wk.tuple (.cons (Wk.ro _ _ _) (.refl _))
    · have hok : ¬ okV ⟨k, n, s⟩ = true := by rw [hb, h, h2]; decide
      rw [if_neg hok, if_neg hok]
      exact Wk.tuple (.cons (wkW .nil (okW_nil 1 0)) (.refl _))
theorem bytes_ok : EntOk Tryd.prog bytesE := by
  intro xs σ; simp only [bytesE]; split
  · rename_i k n s
    intro hc
    have hn := i64r_of hc
    exact pcall_of (v := .tuple [.slice _ 1 .ro, .int .i64 _]) (.refl _) (bytes_c k n s hn.1 hn.2) rfl rfl (by simp only [AVal.noOut, noOutL, bw_noOut, Bool.and_true]) (by simp only [AVal.noTok, noTokL, bw_noTok, Tag.below, Bool.and_true])
  · trivial
end Go.Proofs.YteohhklblbinbaaDoor
