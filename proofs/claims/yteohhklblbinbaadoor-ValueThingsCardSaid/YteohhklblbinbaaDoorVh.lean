/-
  Seat 02 (value): contracts: values out of bytes; the reference's bytes.
-/
import Derived.Test.YteohhklblbinbaaDoorVf
namespace Go.AL
theorem takeV_num (r : Txt) (h : 8 ≤ r.length) : takeV (1 :: r) = (⟨1, (num8 (r.take 8) : Int) - 9223372036854775808, []⟩, 9, 0) := by
  unfold takeV
  simp only
  rw [if_neg (by decide), if_neg (by decide), if_neg (by omega)]
theorem takeV_short (r : Txt) (h : r.length < 8) : takeV (1 :: r) = (.zero, 0, 20) := by
  unfold takeV
  simp only
  rw [if_neg (by decide), if_neg (by decide), if_pos h]
theorem takeV_kind {c : UInt8} (r : Txt) (h1 : c ≠ 1) (h2 : c ≠ 2) : takeV (c :: r) = (.zero, 0, 22) := by
  unfold takeV
  simp only
  rw [if_neg h2, if_pos h1]
theorem num8_take (b : Txt) (i : Nat) (h : i < b.length) : num8 (b.take (i + 1)) = num8 (b.take i) * 256 + b[i].toNat := by
  rw [List.take_add_one, List.getElem?_eq_getElem h]
  exact num8_snoc _ _
end Go.AL
namespace Go.Proofs.YteohhklblbinbaaDoor
open Go.AL
set_option linter.unusedSimpArgs false
set_option linter.unusedVariables false
set_option maxHeartbeats 2000000
set_option maxRecDepth 20000
theorem take_c (b : Txt) (hb : b.length ≤ 1000000) : ACall Tryd.prog 22 [.slice (bw b) 1 .ro] Sto.empty fun r _ => Wk r (resV (takeV b)) := by
  refine take_i b _ (.of [vtextE] rfl ⟨vtext_ok, trivial⟩) ?_
  simp only [hold_eq]
  cases b with
  | nil => exact brT rfl (Wk.refl _)
  | cons c r =>
    have hl : (bw (c :: r)).length = r.length + 1 := by simp
    rw [List.length_cons] at hb
    refine brF (by rw [hl]; have : ¬ ((r.length + 1 : Nat) : Int) = 0 := by omega
                   simpa using this) ?_
    have e0 : elemAt (bw (c :: r)) 0 = [.int .u8 (c.toNat : Int)] := elemAt_bw (c :: r) 0 (by simp)
    rw [e0]
    have e1 : AVal.intOf (List.getD [AVal.int .u8 (c.toNat : Int)] 0 .undef) = (c.toNat : Int) := rfl
    rw [e1]
    have c0 := decide_eq_true (show (0 : Int) ≤ 0 ∧ (0 : Int) < ((bw (c :: r)).length : Int) by omega)
    refine gb_by c0 (gb_by rfl (brV_by (fun h => ?_) (fun h => gb_by c0 (gb_by rfl (brV_by (fun h2 => ?_) (fun h2 => ?_))))))
    · have hc : c = 2 := u8_eqn (m := 2) h (by decide)
      subst hc
      intro y hy
      refine gb_by (and_tt (bw_byteIs _) (dt (by rw [hl]; omega))) ?_
      rw [map_byteOf_bw] at hy
      have : txtV r [] 1 = y := hy.symm
      rw [← take_txt, this]
      exact Wk.refl _
    · have hc2 : c ≠ 2 := u8_ne (m := 2) h (by decide)
      have hc1 : c ≠ 1 := u8_ne (m := 1) (by simpa using h2) (by decide)
      rw [takeV_kind r hc1 hc2]
      exact Wk.refl _
    · have hc1 : c = 1 := u8_eqn (m := 1) (by simpa using h2) (by decide)
      subst hc1
      rw [hl]
      refine brV_by (fun h => ?_) (fun h => ?_)
      · have h9 : r.length < 8 := by have := of_decide_eq_true h; omega
        rw [takeV_short r h9]
        exact Wk.refl _
      · have h9 : 8 ≤ r.length := by have := of_decide_eq_false h; omega
        rw [takeV_num r h9]
        refine gb_by (dt (by omega)) ?_
        have e2 : List.take 8 (List.drop 1 (bw (1 :: r))) = bw (r.take 8) := by rw [bw_take]; rfl
        rw [e2]
        have hq : (r.take 8).length = 8 := by rw [List.length_take]; omega
        generalize r.take 8 = q at *
        have hql : (bw q).length = 8 := by rw [bw_length, hq]
        refine loopV_intro (α := Nat) (fun i => takeL_S q (num8 (q.take i)) (bw q).length i) (fun i => i ≤ 8) (fun i => 8 - i) ?_ 0 (Nat.zero_le _)
        rintro i hi L hL
        refine Eq.mpr (takeL_r q (num8 (q.take i)) (bw q).length i L _) ?_
        simp only [hold_eq]
        have hu := num8_lt (q.take i)
        refine brV_by (fun h => ?_) (fun h => ?_)
        · have hlt : i < 8 := by have := of_decide_eq_true h; omega
          have hlq : i < q.length := by omega
          rw [elemAt_bw q i hlq, i64_succ hlt (by omega)]
          have e1 : AVal.intOf (List.getD [AVal.int .u8 (q[i].toNat : Int)] 0 .undef) = (q[i].toNat : Int) := rfl
          rw [e1]
          have hx := q[i].toNat_lt
          have hu7 : num8 (q.take i) < 72057594037927936 := by
            have h1 : (q.take i).length = i := by rw [List.length_take]; omega
            rw [h1] at hu
            have : 256 ^ i ≤ 256 ^ 7 := Nat.pow_le_pow_right (by decide) (by omega)
            omega
          have w1 : IntKind.u64.wrap ((num8 (q.take i) : Int) * 256) = ((num8 (q.take i) * 256 : Nat) : Int) := by rw [IntKind.wrap_u64]; omega
          have w2 : IntKind.u64.wrap (q[i].toNat : Int) = (q[i].toNat : Int) := by rw [IntKind.wrap_u64]; omega
          refine gb_by (dt (by omega)) (gb_by rfl ?_)
          rw [w1, w2, or8 _ _ hu7 hx, ← num8_take q i hlq]
          exact hL (i + 1) hlt (by omega)
        · have hge : i = 8 := by have := of_decide_eq_false h; omega
          subst hge
          have h8 : q.take 8 = q := List.take_of_length_le (by omega)
          rw [h8] at hu ⊢
          refine leaveTo (toCut (Eq.mpr (takeF_r (num8 q) _) ?_))
          rw [hq] at hu
          rw [num_sign _ (by omega)]
          exact Wk.refl _
theorem take_ok : EntOk Tryd.prog takeE := by
  intro xs σ; simp only [takeE]; split
  · rename_i es s t
    intro hc
    simp only [Bool.and_eq_true] at hc
    obtain ⟨h1, h2, h3⟩ := hc
    rw [hold_eq] at h3
    exact pcall_of (v := resV _) (.cons (wk_bw t h1 h2) (.refl _)) (take_c _ (by simpa using of_decide_eq_true h3)) (by simp only [noOutL, AVal.noOut, bw_noOut, Bool.and_true]) (by simp only [noTokL, AVal.noTok, bw_noTok, Bool.and_true, Tag.below]) rfl rfl
  · trivial
theorem takeR_c (b : Txt) (hb : b.length ≤ 1000000) : ACall Tryd.prog 23 [.slice (bw b) 1 .ro] Sto.empty fun r _ => Wk r (resV (takeV b)) := by
  refine takeR_i b _ (.of_none rfl) ?_
  simp only [hold_eq]
  cases b with
  | nil => exact brT rfl (Wk.refl _)
  | cons c r =>
    have hl : (bw (c :: r)).length = r.length + 1 := by simp
    rw [List.length_cons] at hb
    refine brF (by rw [hl]; have : ¬ ((r.length + 1 : Nat) : Int) = 0 := by omega
                   simpa using this) ?_
    have e0 : elemAt (bw (c :: r)) 0 = [.int .u8 (c.toNat : Int)] := elemAt_bw (c :: r) 0 (by simp)
    rw [e0]
    have e1 : AVal.intOf (List.getD [AVal.int .u8 (c.toNat : Int)] 0 .undef) = (c.toNat : Int) := rfl
    rw [e1]
    have c0 := decide_eq_true (show (0 : Int) ≤ 0 ∧ (0 : Int) < ((bw (c :: r)).length : Int) by omega)
    refine gb_by c0 (gb_by rfl (brV_by (fun h => ?_) (fun h => gb_by c0 (gb_by rfl (brV_by (fun h2 => ?_) (fun h2 => ?_))))))
    · have hc1 : c = 1 := u8_eqn (m := 1) h (by decide)
      subst hc1
      rw [hl]
      refine brV_by (fun h => ?_) (fun h => ?_)
      · have h9 : r.length < 8 := by have := of_decide_eq_true h; omega
        rw [takeV_short r h9]
        exact Wk.refl _
      · have h9 : 8 ≤ r.length := by have := of_decide_eq_false h; omega
        rw [takeV_num r h9]
        obtain ⟨q, hq0⟩ : ∃ q, r.take 8 = q := ⟨_, rfl⟩
        have hq : q.length = 8 := by rw [← hq0, List.length_take]; omega
        have hget : ∀ (i : Nat) (h1 : i < q.length) (h2 : i < r.length), r[i] = q[i] := fun i h1 h2 => by subst hq0; rw [List.getElem_take]
        rw [hq0]
        refine loopV_intro (α := Nat) (fun i => takeRN_S (1 :: r) (num8 (q.take i)) (i + 1)) (fun i => i ≤ 8) (fun i => 8 - i) ?_ 0 (Nat.zero_le _)
        rintro i hi L hL
        refine Eq.mpr (takeRN_r (1 :: r) (num8 (q.take i)) (i + 1) L _) ?_
        simp only [hold_eq]
        have hu := num8_lt (q.take i)
        refine brV_by (fun h => ?_) (fun h => ?_)
        · have hlt : i < 8 := by have := of_decide_eq_true h; omega
          have hlq : i < q.length := by omega
          rw [elemAt_bw (1 :: r) (i + 1) (by rw [List.length_cons]; omega), List.getElem_cons_succ, hget i hlq (by omega)]
          have e1 : AVal.intOf (List.getD [AVal.int .u8 (q[i].toNat : Int)] 0 .undef) = (q[i].toNat : Int) := rfl
          rw [e1]
          have hx := q[i].toNat_lt
          have hu7 : num8 (q.take i) < 72057594037927936 := by
            have h1 : (q.take i).length = i := by rw [List.length_take]; omega
            rw [h1] at hu
            have : 256 ^ i ≤ 256 ^ 7 := Nat.pow_le_pow_right (by decide) (by omega)
            omega
          have w1 : IntKind.u64.wrap (IntKind.u64.wrap ((num8 (q.take i) : Int) * 256) + IntKind.u64.wrap (q[i].toNat : Int)) = ((num8 (q.take i) * 256 + q[i].toNat : Nat) : Int) := by rw [IntKind.wrap_u64, IntKind.wrap_u64, IntKind.wrap_u64]; omega
          have w3 : IntKind.i64.wrap (((i + 1 : Nat) : Int) + 1) = ((i + 1 + 1 : Nat) : Int) := by rw [wrap_i64 (by omega) (by omega)]; omega
          refine gb_by (dt (by rw [hl]; omega)) (gb_by rfl ?_)
          rw [w1, w3, ← num8_take q i hlq]
          exact hL (i + 1) hlt (by omega)
        · have hge : i = 8 := by have := of_decide_eq_false h; omega
          subst hge
          have h8 : q.take 8 = q := List.take_of_length_le (by omega)
          rw [h8] at hu ⊢
          refine leaveTo (toCut (Eq.mpr (takeRNF_r (1 :: r) (num8 q) _) ?_))
          rw [hq] at hu
          have w1 : IntKind.i64.wrap (IntKind.u64.wrap ((num8 q : Int) - 9223372036854775808)) = (num8 q : Int) - 9223372036854775808 := by rw [IntKind.wrap_u64, IntKind.wrap_i64]; omega
          rw [w1]
          exact Wk.refl _
    · have hc1 : c ≠ 1 := u8_ne (m := 1) h (by decide)
      have hc2 : c ≠ 2 := u8_ne (m := 2) (by simpa using h2) (by decide)
      rw [takeV_kind r hc1 hc2]
      exact Wk.refl _
    · have hc : c = 2 := u8_eqn (m := 2) (by simpa using h2) (by decide)
      subst hc
      rw [← take_txt]
      generalize hX : txtV r [] 1 = X
      have hX : txtV (((2 : UInt8) :: r).drop 1) [] 1 = X := hX
      have hb : ((2 : UInt8) :: r).length ≤ 1000001 := by rw [List.length_cons]; omega
      clear hl c0 e0 e1 h2 h
      generalize (2 : UInt8) :: r = b at *
      have hbl : (bw b).length = b.length := bw_length b
      refine loopV_intro (α := Txt × Nat) (fun x => takeRT_S b x.1 x.2) (fun x => 1 ≤ x.2 ∧ x.1.length ≤ 200 ∧ X = txtV (b.drop x.2) x.1 x.2) (fun x => b.length - x.2) ?_ ([], 1) ⟨Nat.le_refl _, Nat.zero_le _, hX.symm⟩
      rintro ⟨a, i⟩ ⟨h1, ha, hpre⟩ L hL
      simp only at h1 ha hpre
      refine Eq.mpr (takeRT_r b a i L _) ?_
      simp only [hold_eq]
      refine brV_by (fun h => ?_) (fun h => ?_)
      · have hlt : i < b.length := by have := of_decide_eq_true h; omega
        rw [elemAt_bw b i hlt]
        have e0 : AVal.intOf (List.getD [AVal.int .u8 (b[i].toNat : Int)] 0 .undef) = (b[i].toNat : Int) := rfl
        rw [e0]
        have e9 : List.map AL.byteOf [AVal.int .u8 (b[i].toNat : Int)] = [b[i]] := map_byteOf_bw [b[i]]
        rw [e9]
        have w1 : IntKind.i64.wrap ((i : Int) + 1) = ((i + 1 : Nat) : Int) := by rw [wrap_i64 (by omega) (by omega)]; omega
        rw [w1]
        have c0 := decide_eq_true (show (0 : Int) ≤ (i : Int) ∧ (i : Int) < ((bw b).length : Int) by omega)
        rw [List.drop_eq_getElem_cons hlt] at hpre
        refine gb_by c0 (gb_by rfl (gb_by c0 (gb_by rfl (brV_by (fun h => ?_) (fun h => ?_)))))
        · have hz : b[i] = 0 := u8_zero h
          rw [hz] at hpre
          refine brV_by (fun h => ?_) (fun h => ?_)
          · have hl : b.length ≤ i + 1 := by have := of_decide_eq_true h; omega
            rw [List.drop_of_length_le (by omega)] at hpre
            rw [hpre]
            exact Wk.refl _
          · have hl : i + 1 < b.length := by have := of_decide_eq_false h; omega
            rw [elemAt_bw b (i + 1) hl]
            have e1 : AVal.intOf (List.getD [AVal.int .u8 (b[i + 1].toNat : Int)] 0 .undef) = (b[i + 1].toNat : Int) := rfl
            rw [e1]
            have w2 : IntKind.i64.wrap ((i : Int) + 2) = ((i + 2 : Nat) : Int) := by rw [wrap_i64 (by omega) (by omega)]; omega
            rw [w2]
            have c1 := decide_eq_true (show (0 : Int) ≤ ((i + 1 : Nat) : Int) ∧ ((i + 1 : Nat) : Int) < ((bw b).length : Int) by omega)
            rw [List.drop_eq_getElem_cons hl, txtV, if_pos rfl] at hpre
            refine gb_by c1 (gb_by rfl (brV_by (fun h => ?_) (fun h => ?_)))
            · have hz : b[i + 1] = 0 := u8_zero h
              rw [if_pos hz] at hpre
              rw [hpre]
              exact Wk.refl _
            · have hz : b[i + 1] ≠ 0 := u8_ne (m := 0) h (by decide)
              rw [if_neg hz] at hpre
              refine gb_by c1 (gb_by rfl (brV_by (fun h => ?_) (fun h => ?_)))
              · have hz : b[i + 1] ≠ 255 := u8_ne (m := 255) (by simpa using h) (by decide)
                rw [if_pos hz] at hpre
                rw [hpre]
                exact Wk.refl _
              · have hz : b[i + 1] = 255 := u8_eqn (m := 255) (by simpa using h) (by decide)
                rw [if_neg (by rw [hz]; decide)] at hpre
                refine toCut (Eq.mpr (takeRS_r b a _ i 2 _) ?_)
                simp only [hold_eq]
                refine brV_by (fun h => ?_) (fun h => ?_)
                · have h200 := of_decide_eq_true h
                  rw [if_pos (by omega)] at hpre
                  rw [hpre]
                  exact Wk.refl _
                · have h200 := of_decide_eq_false h
                  rw [if_neg (by omega)] at hpre
                  refine gb_by (dt (by simp; omega)) ?_
                  have nxt := hL (a ++ [0], i + 2) ⟨by simp only; omega, by simp only [List.length_append, List.length_singleton]; omega, hpre⟩ (by simp only; omega)
                  have w3 : IntKind.i64.wrap ((i : Int) + ((2 : Nat) : Int)) = ((i + 2 : Nat) : Int) := by rw [wrap_i64 (by omega) (by omega)]; omega
                  rw [w3, show b[i] = 0 from ‹b[i] = 0›]
                  exact nxt
        · have hz : b[i] ≠ 0 := u8_ne (m := 0) h (by decide)
          rw [txtV_ne hz] at hpre
          refine toCut (Eq.mpr (takeRS_r b a _ i 1 _) ?_)
          simp only [hold_eq]
          refine brV_by (fun h => ?_) (fun h => ?_)
          · have h200 := of_decide_eq_true h
            rw [if_pos (by omega)] at hpre
            rw [hpre]
            exact Wk.refl _
          · have h200 := of_decide_eq_false h
            rw [if_neg (by omega)] at hpre
            refine gb_by (dt (by simp; omega)) ?_
            have nxt := hL (a ++ [b[i]], i + 1) ⟨by simp only; omega, by simp only [List.length_append, List.length_singleton]; omega, hpre⟩ (by simp only; omega)
            have w3 : IntKind.i64.wrap ((i : Int) + ((1 : Nat) : Int)) = ((i + 1 : Nat) : Int) := by rw [wrap_i64 (by omega) (by omega)]; omega
            rw [w3]
            exact nxt
      · have hge : b.length ≤ i := by have := of_decide_eq_false h; omega
        rw [List.drop_of_length_le hge] at hpre
        refine leaveTo (toCut (Eq.mpr (takeRTF_r _) ?_))
        rw [hpre]
        exact Wk.refl _
theorem takeR_ok : EntOk Tryd.prog takeRE := by
  intro xs σ; simp only [takeRE]; split
  · rename_i es s t
    intro hc
    simp only [Bool.and_eq_true] at hc
    obtain ⟨h1, h2, h3⟩ := hc
    rw [hold_eq] at h3
    exact pcall_of (v := resV _) (.cons (wk_bw t h1 h2) (.refl _)) (takeR_c _ (by simpa using of_decide_eq_true h3)) (by simp only [noOutL, AVal.noOut, bw_noOut, Bool.and_true]) (by simp only [noTokL, AVal.noTok, bw_noTok, Bool.and_true, Tag.below]) rfl rfl
  · trivial
end Go.Proofs.YteohhklblbinbaaDoor
