/-
  Seat 08 (block): contracts: check sums, numbers, clones.
-/
import Derived.Test.YtajnhcncggbanaaKr
import Derived.Test.YtajnhcncggbanaaKb
namespace Go.Proofs.Ytajnhcncggbanaa
open Go.AL
set_option linter.unusedSimpArgs false
set_option linter.unusedVariables false
set_option maxHeartbeats 2000000
set_option maxRecDepth 20000

theorem sum_ok : EntOk Try.prog sumE := by
  intro xs σ; simp only [sumE]; split
  · rename_i es s t
    intro hc σ'
    simp only [Bool.and_eq_true, decide_eq_true_eq, List.all_eq_true] at hc
    obtain ⟨hw, hall, hlen⟩ := hc
    refine ACall.args ?_ (wkS1 t hw)
    clear hw s t
    simp only [holdA_eq]
    refine sum_i _ _ _ (.of_none rfl) ?_
    refine loopV_intro (α := Nat × Nat) (fun x => sumO_S es x.2 x.1 σ') (fun x => x.1 ≤ es.length ∧ x.2 < 4294967296 ∧ ((es.drop x.1).flatMap bytesV).foldl byteN x.2 ^^^ 4294967295 = crcN (es.flatMap bytesV)) (fun x => es.length - x.1) ?_ (0, 4294967295) ⟨Nat.zero_le _, by decide, rfl⟩
    rintro ⟨i, s⟩ ⟨hi, hs, hm⟩ L hL
    simp only [] at hi hs hm
    refine Eq.mpr (sumO_r es s i σ' L _) ?_
    simp only [hold_eq]
    refine brV_by (fun h => ?_) (fun h => ?_)
    · have hlt : i < es.length := by simpa using h
      obtain ⟨l, _, t', hv, hb, hll, hbv, _⟩ := bytesV_of (hall es[i] (List.getElem_mem hlt))
      have he : elemAt es (i : Int) = [.slice (bv l) 1 t'] := by rw [elemAt_get hlt, hv]; rfl
      rw [List.drop_eq_getElem_cons hlt, List.flatMap_cons, List.foldl_append, hbv] at hm
      rw [he]
      refine gb_by (by simp; omega) (gb_by rfl ?_)
      simp only [List.getD_cons_zero, AVal.elems]
      refine loopV_intro (α := Nat × Nat) (fun x => sumI_S es x.2 i (bv l) x.1 σ') (fun x => x.1 ≤ l.length ∧ x.2 < 4294967296 ∧ (l.drop x.1).foldl byteN x.2 = l.foldl byteN s) (fun x => l.length - x.1) ?_ (0, s) ⟨Nat.zero_le _, hs, rfl⟩
      rintro ⟨j, r⟩ ⟨hj, hr, hf⟩ L' hL'
      simp only [] at hj hr hf
      refine Eq.mpr (sumI_r es r i (bv l) j σ' L' _) ?_
      simp only [hold_eq]
      refine brV_by (fun h => ?_) (fun h => ?_)
      · have hlt : j < l.length := by simpa [bv_length] using h
        have hx := hb l[j] (List.getElem_mem hlt)
        rw [foldl_drop _ _ _ hlt] at hf
        rw [elemAt_bv l j hlt]
        generalize l[j] = x at hx hf ⊢
        simp only [List.getD_cons_zero, AVal.intOf]
        have q0 : IntKind.u32.wrap (x : Int) = (x : Int) := wrap_u32_of (by omega) (by omega)
        have q1 : bits .and .u32 (bits .xor .u32 (r : Int) (x : Int)) 15 = (((r ^^^ x) % 16 : Nat) : Int) := by
          rw [xor32 r x hr (by omega), and15 _ (Nat.xor_lt_two_pow (n := 32) hr (by omega))]
        rw [q0, q1, tabGet _ (Nat.mod_lt _ (by decide)), fdiv16 r, fdiv16 x]
        simp only [AVal.intOf]
        have h1 := half1_lt (x := x) hr
        have q2 : bits .xor .u32 ((crcTab.getD ((r ^^^ x) % 16) 0 : Nat) : Int) ((r / 16 : Nat) : Int) = ((half1 r x : Nat) : Int) := xor32 _ _ (tab_lt _) (by omega)
        have q3 : bits .and .u32 (bits .xor .u32 ((half1 r x : Nat) : Int) ((x / 16 : Nat) : Int)) 15 = (((half1 r x ^^^ x / 16) % 16 : Nat) : Int) := by
          rw [xor32 _ _ h1 (by omega), and15 _ (Nat.xor_lt_two_pow (n := 32) h1 (by omega))]
        rw [q2, q3, tabGet _ (Nat.mod_lt _ (by decide)), fdiv16]
        simp only [AVal.intOf]
        have q4 : bits .xor .u32 ((crcTab.getD ((half1 r x ^^^ x / 16) % 16) 0 : Nat) : Int) ((half1 r x / 16 : Nat) : Int) = ((byteN r x : Nat) : Int) := by
          rw [← halves r x hx]; exact xor32 _ _ (tab_lt _) (by omega)
        rw [q4]
        have e1 : IntKind.i64.wrap ((j : Int) + 1) = ((j + 1 : Nat) : Int) := by rw [wrap_i64 (by omega) (by omega)]; rfl
        rw [e1]
        have k1 : (r ^^^ x) % 16 < 16 := Nat.mod_lt _ (by decide)
        have k2 : (half1 r x ^^^ x / 16) % 16 < 16 := Nat.mod_lt _ (by decide)
        refine gb_by (by simp [bv_length]; omega) (gb_by rfl (gb_by (by simp; omega) (gb_by ?_ (gb_by (by simp; omega) (gb_by ?_ ?_)))))
        · simp [etaOk]; omega
        · simp [etaOk]; omega
        · exact hL' (j + 1, byteN r x) ⟨hlt, byteN_lt hr hx, hf⟩ (by simp; omega)
      · have hge : ¬ j < l.length := by simpa [bv_length] using h
        rw [List.drop_of_length_le (by omega)] at hf
        simp only [List.foldl_nil] at hf
        subst hf
        refine leaveK (inBlock (toCut ?_))
        refine Eq.mpr (sumC_r es (l.foldl byteN s : Nat) i σ' _) ?_
        have e1 : IntKind.i64.wrap ((i : Int) + 1) = ((i + 1 : Nat) : Int) := by rw [wrap_i64 (by omega) (by omega)]; rfl
        rw [e1]
        exact hL (i + 1, l.foldl byteN s) ⟨hlt, hr, hm⟩ (by simp; omega)
    · have hge : ¬ i < es.length := by simpa using h
      refine leaveTo (toCut (Eq.mpr (sumF_r s σ' _) ?_))
      rw [List.drop_of_length_le (by omega)] at hm
      refine ⟨?_, rfl⟩
      simp only [List.flatMap_nil, List.foldl_nil] at hm
      rw [← hm]
      congr 1
      have := xor32 4294967295 s (by decide) hs
      rw [Nat.xor_comm] at this
      exact this
  · trivial

theorem rsum_ok : EntOk Try.prog rsumE := by
  intro xs σ; simp only [rsumE]; split
  · rename_i es s t
    intro hc σ'
    simp only [Bool.and_eq_true, decide_eq_true_eq] at hc
    obtain ⟨hw, hall, hlen⟩ := hc
    refine ACall.args ?_ (wkS1 t hw)
    clear hw s t
    simp only [holdA_eq]
    obtain ⟨l, rfl, hb⟩ := bv_of hall
    rw [bv_length] at hlen
    rw [map_natOf_bv]
    refine rsum_i _ _ _ (.of_none rfl) ?_
    refine loopV_intro (α := Nat × Nat) (fun x => rsumO_S (bv l) x.2 x.1 σ') (fun x => x.1 ≤ l.length ∧ x.2 < 4294967296 ∧ (l.drop x.1).foldl byteN x.2 ^^^ 4294967295 = crcN l) (fun x => l.length - x.1) ?_ (0, 4294967295) ⟨Nat.zero_le _, by decide, rfl⟩
    rintro ⟨i, s⟩ ⟨hi, hs, hm⟩ L hL
    simp only [] at hi hs hm
    refine Eq.mpr (rsumO_r (bv l) s i σ' L _) ?_
    simp only [hold_eq]
    refine brV_by (fun h => ?_) (fun h => ?_)
    · have hlt : i < l.length := by simpa [bv_length] using h
      have hx := hb l[i] (List.getElem_mem hlt)
      rw [foldl_drop _ _ _ hlt] at hm
      rw [elemAt_bv l i hlt]
      generalize l[i] = x at hx hm ⊢
      simp only [List.getD_cons_zero, AVal.intOf]
      have q0 : IntKind.u32.wrap (x : Int) = (x : Int) := wrap_u32_of (by omega) (by omega)
      rw [q0, xor32 s x hs (by omega)]
      have e1 : IntKind.i64.wrap ((i : Int) + 1) = ((i + 1 : Nat) : Int) := by rw [wrap_i64 (by omega) (by omega)]; rfl
      have hs2 : s ^^^ x < 4294967296 := Nat.xor_lt_two_pow (n := 32) hs (by omega)
      refine gb_by (by simp [bv_length]; omega) (gb_by rfl ?_)
      refine loopV_intro (α := Nat × Nat) (fun y => rsumI_S (bv l) y.2 i y.1 σ') (fun y => y.1 ≤ 8 ∧ y.2 < 4294967296 ∧ Nat.repeat bit1 (8 - y.1) y.2 = byteN s x) (fun y => 8 - y.1) ?_ (0, s ^^^ x) ⟨Nat.zero_le _, hs2, rfl⟩
      rintro ⟨j, r⟩ ⟨hj, hr, hf⟩ L' hL'
      simp only [] at hj hr hf
      refine Eq.mpr (rsumI_r (bv l) r i j σ' L' _) ?_
      simp only [hold_eq]
      refine brV_by (fun h => ?_) (fun h => ?_)
      · have hlt' : j < 8 := by simp at h; omega
        have e2 : IntKind.i64.wrap ((j : Int) + 1) = ((j + 1 : Nat) : Int) := by rw [wrap_i64 (by omega) (by omega)]; rfl
        have rep : ∀ n r, Nat.repeat bit1 (n + 1) r = Nat.repeat bit1 n (bit1 r) := by
          intro n
          induction n with
          | zero => intro r; rfl
          | succ n ih => intro r; simp only [Nat.repeat] at ih ⊢; rw [ih]
        have hf' : Nat.repeat bit1 (8 - (j + 1)) (bit1 r) = byteN s x := by
          rw [← rep, show 8 - (j + 1) + 1 = 8 - j by omega]; exact hf
        rw [tmod2, tdiv2, wrap_u32_of (n := ((r / 2 : Nat) : Int)) (by omega) (by omega)]
        have next : ∀ (K' : Exit → St → Prop) (r' : Nat), r' = bit1 r → cutV (vc Try.prog cRsum code_10_1_1_0_1_0_0_1_0_0_1_1_0_0_1_1 (thenK (fun (s : St) ↦ L' (St.norm [] [0, 3, 4, 5] [] s)) K')) (rsumI_S (bv l) r' i j σ') := by
          rintro K' r' rfl
          refine toCut (Eq.mpr (rsumD_r (bv l) (bit1 r : Nat) i j σ' _) ?_)
          rw [e2]
          exact hL' (j + 1, bit1 r) ⟨hlt', bit1_lt hr, hf'⟩ (by simp; omega)
        refine brV_by (fun h => ?_) (fun h => ?_)
        · have h1 : r % 2 = 1 := by simp at h; omega
          have hb1 : bits .xor .u32 ((r / 2 : Nat) : Int) 3988292384 = ((bit1 r : Nat) : Int) := by
            have := xor32 (r / 2) 3988292384 (by omega) (by decide)
            rw [bit1, if_pos h1]; exact this
          rw [hb1]
          exact next _ _ rfl
        · have h1 : ¬ r % 2 = 1 := by simp at h; omega
          exact next _ (r / 2) (by rw [bit1, if_neg h1, Nat.xor_zero])
      · have hj8 : j = 8 := by simp at h; omega
        subst hj8
        have hf : r = byteN s x := hf
        subst hf
        refine leaveK (inBlock (toCut ?_))
        refine Eq.mpr (rsumC_r (bv l) (byteN s x : Nat) i σ' _) ?_
        rw [e1]
        exact hL (i + 1, byteN s x) ⟨hlt, hr, hm⟩ (by simp; omega)
    · have hge : ¬ i < l.length := by simpa [bv_length] using h
      refine leaveTo (toCut (Eq.mpr (rsumF_r s σ' _) ?_))
      rw [List.drop_of_length_le (by omega)] at hm
      refine ⟨?_, rfl⟩
      simp only [List.foldl_nil] at hm
      rw [← hm]
      congr 1
      exact xor32 s 4294967295 hs (by decide)
  · trivial

theorem four_ok : EntOk Try.prog fourE := by
  intro xs σ; simp only [fourE]; split
  · rename_i es p n
    intro hc σ' hown hnown
    simp only [Bool.and_eq_true, decide_eq_true_eq] at hc
    obtain ⟨h1, h2⟩ := hc
    refine four_i _ _ _ _ _ (.of_none rfl) ?_
    rw [← hown] at h1
    refine gb_by (by simp [h1]; omega) ⟨rfl, ?_⟩
    cases σ' with
    | mk a b c d =>
      simp only at hown hnown
      subst hown
      subst hnown
      rfl
  · trivial
end Go.Proofs.Ytajnhcncggbanaa
