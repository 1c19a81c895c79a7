/-
  Seat 04 (word): the other laws.
-/
import Derived.Test.YtickkgdphdkodaaWl
import Derived.Test.YtickkgdphdkodaaWd
namespace Go.Proofs.Ytickkgdphdkodaa
open Go.AL
set_option linter.unusedSimpArgs false
set_option linter.unusedVariables false
set_option maxHeartbeats 1000000
set_option maxRecDepth 20000

theorem fits_ints {k : IntKind} {b : Nat} {a : AVal} (h : Fits (.slice (.int k) 1 b) a) : ∃ ws : List Int, a = .slice (ws.map (AVal.int k)) 1 .ro ∧ ws.length * b ≤ 140737488351232 ∧ ∀ w ∈ ws, k.min ≤ w ∧ w ≤ k.max := by
  simp only [Fits] at h
  obtain ⟨es, rfl, h1, h2⟩ := h
  refine ⟨es.map AVal.intOf, ?_, by simpa using h1, fun w hw => ?_⟩
  · congr 1
    rw [List.map_map]
    conv => lhs; rw [← List.map_id es]
    exact List.map_congr_left fun x hx => by obtain ⟨n, rfl, _⟩ := h2 x hx; rfl
  · obtain ⟨x, hx, rfl⟩ := List.mem_map.1 hw
    obtain ⟨n, rfl, h3⟩ := h2 x hx
    exact h3

theorem u64_range {n : Int} (h : IntKind.u64.min ≤ n ∧ n ≤ IntKind.u64.max) : 0 ≤ n ∧ n < 18446744073709551616 := by
  have h0 : 0 ≤ n := h.1
  have h1 : n ≤ 18446744073709551615 := h.2
  omega
theorem i64_range {n : Int} (h : IntKind.i64.min ≤ n ∧ n ≤ IntKind.i64.max) : -9223372036854775808 ≤ n ∧ n ≤ 9223372036854775807 := by
  have h0 : -9223372036854775808 ≤ n := h.1
  have h1 : n ≤ 9223372036854775807 := h.2
  exact ⟨h0, h1⟩

theorem map_int_intOf (k : IntKind) (ws : List Int) : (ws.map (AVal.int k)).map AVal.intOf = ws := by
  rw [List.map_map]; exact List.map_id'' (fun _ => rfl) ws
theorem all_etaOk (k : IntKind) (ws : List Int) : (ws.map (AVal.int k)).all (etaOk (.int k)) = true := by
  simp [etaOk]
theorem elemAt_map (k : IntKind) (ws : List Int) (i : Nat) (h : i < ws.length) : elemAt (ws.map (AVal.int k)) (i : Int) = [.int k ws[i]] := by
  rw [elemAt_get (by simpa using h)]
  simp [AVal.cells]

theorem packs_law (xs : List AVal) (h : FitsL [.agg [.int .i64, .int .i64, .bool, .bool], .int .u64] xs) : ACall Try.prog 5 xs Sto.empty fun r _ => r = .bool true := by
  obtain ⟨x, r1, rfl, h1, y, r2, rfl, ⟨n, rfl, hn⟩, rfl⟩ := h
  obtain ⟨e, s, l, a, rfl⟩ := fits_tid h1
  obtain ⟨h0, h1⟩ := u64_range hn
  refine packs_i _ _ _ _ _ _ _ (.of [awakeE, rpartsE, partsE, stampE, packE, rrightE, rpackE] rfl ⟨awake_ok, rparts_ok, parts_ok, stamp_ok, pack_ok, rright_ok, rpack_ok, trivial⟩) ?_
  have hl := wLow_eq n h0 h1
  have f1 : wOk n = decide (rSq n ≤ 1073741823) := by
    unfold wOk
    rw [wSeq_eq _ (by omega) (by omega), rSq_eq n h0 h1, hl]
    congr 2
    omega
  have f2 : wOk n = true → IntKind.i64.wrap ((wLow n).fdiv 2147483648) = IntKind.i64.wrap (rEp n) := fun _ => by
    rw [hl, rEp_eq n h0 h1, Int.fdiv_eq_ediv_of_nonneg _ (by decide)]
  have f3 : wSeq (wLow n) = rSq n := by
    rw [wSeq_eq _ (by omega) (by omega), rSq_eq n h0 h1, hl]
    omega
  have f4 : (wIsLock n != 0) = rLk n := by
    rw [wIsLock_eq n h0 h1, rLk_eq n h0 h1]
    by_cases h : 9223372036854775808 ≤ n <;> simp [h]
  have f5 : (wIsAbs n != 0) = rAb n := by
    rw [wIsAbs_eq n h0 h1, rAb_eq n h0 h1, ine]
    by_cases h : n / 4611686018427387904 % 2 = 1
    · simp [h]
    · simp [h]; omega
  have f6 : (wLow n != IntKind.u64.wrap (IntKind.u64.wrap (rEp n * 2147483648) + rSq n)) = false := by
    rw [ine, hl, rEp_eq n h0 h1, rSq_eq n h0 h1, IntKind.wrap_u64, IntKind.wrap_u64]
    simp
    omega
  simp only [hold_eq, f4, f5, f6, f3]
  have key : wRight e s = true → (wPack e s l a = rPack e s l a ∧ wOk (wPack e s l a) = true ∧ IntKind.i64.wrap ((wLow (wPack e s l a)).fdiv 2147483648) = e ∧ IntKind.i64.wrap (wSeq (wLow (wPack e s l a))) = s ∧ (wIsLock (wPack e s l a) != 0) = l ∧ (wIsAbs (wPack e s l a) != 0) = a) := by
    intro hr
    have e1 := wPack_eq e s l a hr
    have e2 := wPack_low e s l a hr
    obtain ⟨p1, p2, p3, p4⟩ := (wRight_iff e s).1 hr
    obtain ⟨q1, q2⟩ := wPack_range e s l a hr
    have e3 : wSeq (e * 2147483648 + s) = s := by rw [wSeq_eq _ (by omega) (by omega)]; omega
    refine ⟨by rw [e1, rPack_eq e s l a hr], ?_, ?_, ?_, ?_, ?_⟩
    · unfold wOk; rw [e2, e3]; simpa using p4
    · rw [e2, Int.fdiv_eq_ediv_of_nonneg _ (by decide), wrap_i64 (by omega) (by omega)]; omega
    · rw [e2, e3, wrap_i64 (by omega) (by omega)]
    · rw [wIsLock_eq _ q1 q2, e1]
      cases l <;> cases a <;> simp <;> omega
    · rw [wIsAbs_eq _ q1 q2, e1, ine]
      cases l <;> cases a <;> simp <;> omega
  have key0 : wRight e s = false → wPack e s l a = 0 := fun h => by simp [wPack, h]
  generalize rPack e s l a = R at key ⊢
  generalize wPack e s l a = X at key key0 ⊢
  cases hr : wRight e s with
  | false =>
    cases h2 : wOk n with
    | false => simp [← f1, h2, key0 hr]
    | true => simp [← f1, h2, f2 h2, key0 hr]
  | true =>
    obtain ⟨rfl, k2, k3, k4, k5, k6⟩ := key hr
    cases h2 : wOk n with
    | false => simp [← f1, h2, k2, k3, k4, k5, k6]
    | true => simp [← f1, h2, f2 h2, k2, k3, k4, k5, k6]

theorem nexts_law (xs : List AVal) (h : FitsL [.int .u64, .int .i64, .slice (.int .u64) 1 8] xs) : ACall Try.prog 8 xs Sto.empty fun r _ => r = .bool true := by
  obtain ⟨x, r1, rfl, ⟨n, rfl, hn⟩, y, r2, rfl, ⟨e, rfl, he⟩, z, r3, rfl, hz, rfl⟩ := h
  obtain ⟨ws, rfl, hlen, hws⟩ := fits_ints hz
  obtain ⟨h0, h1⟩ := u64_range hn
  refine nexts_i _ _ _ _ _ (.of [awakeE, nextE, rnextE, partsE, stampE, mostE] rfl ⟨awake_ok, next_ok, rnext_ok, parts_ok, stamp_ok, most_ok, trivial⟩) ?_
  have rest : ∀ {X : Prop} {Y : Prop}, ¬ (100 : Int) < ((ws.map (AVal.int .u64)).length : Int) → vc Try.prog cNexts code_8_1_1_1_1_1_1 (endK Try.prog Try.f8.results.toList fun r _ => r = .bool true) (St.mk 111 [(2, .slice (ws.map (AVal.int .u64)) 1 .ro)] [] [] Sto.empty) := by
    intro _ _ hsm
    simp only [List.length_map] at hsm
    obtain ⟨g0, g1, g2⟩ := mostL_spec ws
    refine Eq.mpr (nextsM_r ws Sto.empty _) ?_
    refine gb_by (by rw [all_etaOk]; simp; omega) ?_
    simp only [hold_eq, map_int_intOf]
    have loop : ∀ (i : Nat) (b : Bool), i ≤ ws.length → (b = true ∨ ∃ w ∈ ws.drop i, wLow w = mostL ws) → loopV (fun (s : St) ↦ St.norm [2, 13, 14, 15] [] s) (vc Try.prog cNexts code_8_1_1_1_1_1_1_1_1_0_1_0_0) (blockK 0 (thenK (fun (s : St) ↦ cutV (vc Try.prog cNexts code_8_1_1_1_1_1_1_1_1_1 (endK Try.prog Try.f8.results.toList fun r _ => r = .bool true)) (St.norm [14] [] s)) (endK Try.prog Try.f8.results.toList fun r _ => r = .bool true))) (nextsL_S ws (mostL ws) b i Sto.empty) := by
      intro i b hi hb
      refine loopV_intro (α := Nat × Bool) (fun x => nextsL_S ws (mostL ws) x.2 x.1 Sto.empty) (fun x => x.1 ≤ ws.length ∧ (x.2 = true ∨ ∃ w ∈ ws.drop x.1, wLow w = mostL ws)) (fun x => ws.length - x.1) ?_ (i, b) ⟨hi, hb⟩
      rintro ⟨i, b⟩ ⟨hi, hb⟩ L hL
      refine Eq.mpr (nextsL_r ws (mostL ws) b i Sto.empty L _) ?_
      simp only [hold_eq, List.length_map]
      refine brV_by (fun h => ?_) (fun h => ?_)
      · have hlt : i < ws.length := by simpa using h
        have he := elemAt_map .u64 ws i hlt
        have hle := g1 ws[i] (List.getElem_mem hlt)
        have e1 : IntKind.i64.wrap ((i : Int) + 1) = ((i + 1 : Nat) : Int) := by rw [wrap_i64 (by omega) (by omega)]; rfl
        rw [he, e1]
        refine gb_by (by simp; omega) (gb_by rfl (brV_by (fun h => ?_) (fun _ => brV_by' (fun hbf => ?_) (fun hbt => ?_))))
        · simp [AVal.intOf] at h; omega
        · refine gb_by (by simp; omega) (gb_by rfl ?_)
          refine hL (i + 1, wLow ws[i] == mostL ws) ⟨hlt, ?_⟩ (by simp; omega)
          rcases hb with hb | ⟨w, hw, e⟩
          · simp only [] at hb; rw [hbf] at hb; cases hb
          · simp only [] at hw
            rw [List.drop_eq_getElem_cons hlt] at hw
            rcases List.mem_cons.1 hw with rfl | hw
            · exact .inl (by simpa using e)
            · exact .inr ⟨w, hw, e⟩
        · exact hL (i + 1, true) ⟨hlt, .inl rfl⟩ (by simp; omega)
      · have hge : ¬ i < ws.length := by simpa using h
        refine leaveTo (toCut (Eq.mpr (nextsF_r b Sto.empty _) ?_))
        rcases hb with hb | ⟨w, hw, _⟩
        · simp only [] at hb; rw [hb]
        · rw [List.drop_of_length_le (by omega)] at hw; cases hw
    refine brV_by (fun h => ?_) (fun h => ?_)
    · refine loop 0 _ (Nat.zero_le _) ?_
      have : ws = [] := by simpa using h
      subst this
      exact .inl rfl
    · refine loop 0 _ (Nat.zero_le _) (.inr ?_)
      rcases g2 with g2 | g2
      · have hne : ws ≠ [] := by simpa using h
        obtain ⟨w, hw⟩ := List.exists_mem_of_ne_nil ws hne
        have := g1 w hw
        obtain ⟨k0, k1⟩ := u64_range (hws w hw)
        refine ⟨w, hw, ?_⟩
        have : 0 ≤ wLow w := by rw [wLow_eq w k0 k1]; omega
        omega
      · exact g2
  rw [next_eq n e h0 h1 (i64_range he)] at *
  simp only [hold_eq]
  refine brV_by (fun h => trivial) (fun h => ?_)
  have hsm : ¬ (100 : Int) < ((ws.map (AVal.int .u64)).length : Int) := by simpa using h
  have rest := rest (X := True) (Y := True) hsm
  refine brV_by' (fun _ => brV_by (fun h => ?_) (fun _ => brV_by (fun h => ?_) (fun _ => rest))) (fun h => ?_)
  · simp at h
  · have h : (wNext n e).2 = 0 := by rw [next_eq n e h0 h1 (i64_range he)]; simpa using h
    obtain ⟨p0, p1, q, q0, q1, hx, hlt⟩ := next_ok_val n e h0 h1 h
    rw [next_eq n e h0 h1 (i64_range he)] at hx
    obtain ⟨v1, v2, v3, v4, v5, v6⟩ := parts_val e q p0 p1 (by omega) q1
    rw [hx, v1, v2, v3, v4, v5]
    simp
    repeat' (first | exact toCut rest | exact rest | omega | apply And.intro | intro _)
  · simp at h
end Go.Proofs.Ytickkgdphdkodaa
