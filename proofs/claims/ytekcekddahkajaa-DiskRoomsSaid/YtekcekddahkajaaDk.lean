/-
  Seat 07 (disk): the law DiskRooms.
-/
import Derived.Test.YtekcekddahkajaaDl
namespace Go.Proofs.Ytekcekddahkajaa
open Go.AL
set_option linter.unusedSimpArgs false
set_option linter.unusedVariables false
set_option maxHeartbeats 4000000
set_option maxRecDepth 20000

theorem mod_pos (z m : Int) (hm : 0 < m) (hb : m ≤ 1000000) (h0 : -9223372036854775808 ≤ z) (h1 : z ≤ 9223372036854775807) :
    ∃ k : Nat, Int.tmod (IntKind.i64.wrap (Int.tmod z m + m)) m = (k : Int) ∧ (k : Int) < m := by
  have a1 : Int.tmod z m < m := Int.tmod_lt_of_pos z hm
  have a2 : -m < Int.tmod z m := by
    have := Int.tmod_lt_of_pos (-z) hm
    rw [Int.neg_tmod] at this
    omega
  rw [wrap_i64 (by omega) (by omega)]
  have a3 : 0 ≤ Int.tmod (Int.tmod z m + m) m := Int.tmod_nonneg _ (by omega)
  have a4 : Int.tmod (Int.tmod z m + m) m < m := Int.tmod_lt_of_pos _ hm
  exact ⟨(Int.tmod (Int.tmod z m + m) m).toNat, by omega, by omega⟩

theorem rep_bw (n : Nat) : List.replicate n (AVal.int .u8 0) = bw (List.replicate n 0) := by simp [bw, ofByte]
theorem dskO_dskO (σ : Sto) (a b a' b' : Int) (c c' : List AVal) : dskO (dskO σ a b c) a' b' c' = dskO σ a' b' c' := by
  simp only [dskO, dsk, set_setOwn, set_set, setOwn_setOwn]
theorem bytesOf_full (l : List UInt8) (t : Tag) (s : Nat) : bytesOfV (.slice (bw l) s t) = l := by simp [bytesOfV, AVal.elems]
theorem bytesIs_bw (l : List UInt8) (t : Tag) : bytesIs (.slice (bw l) 1 t) = true := by simp [bytesIs, okW_same]

theorem rooms_law (xs0 : List AVal) (h : FitsL [.int .i64, .slice (.int .i64) 1 8] xs0) : ACall Try.prog 4 xs0 Sto.empty fun r _ => r = .bool true := by
  simp only [FitsL] at h
  obtain ⟨a, r, rfl, h1, a', r', rfl, h2, rfl⟩ := h
  obtain ⟨zs, rfl, hz, hzb⟩ := fits_iv h2
  obtain ⟨k, rfl, hk1, hk2⟩ := h1
  have hk1 : -9223372036854775808 ≤ k := hk1
  have hk2 : k ≤ 9223372036854775807 := hk2
  refine ro_i _ _ _ (.of [awakeE, newE, appE, flushE, lenE, leftE, safeE] rfl ⟨awake_ok, new_ok, app_ok, flush_ok, len_ok, left_ok, safe_ok, trivial⟩) ?_
  obtain ⟨n, hn, hn5⟩ := mod_pos k 500 (by decide) (by decide) hk1 hk2
  rw [hn]
  simp only [hold_eq, iv_length, brV_ft]
  refine brV_by (fun _ => by simp) (fun h => gb_by (by simp; omega) ?_)
  refine loopV_intro (α := Nat × Nat) (fun x => roL_S zs n x.2 x.1) (fun x => x.1 ≤ zs.length ∧ x.2 ≤ n) (fun x => zs.length - x.1) ?_ (0, 0) ⟨Nat.zero_le _, Nat.zero_le _⟩ |> fun H => by
    have e : roL_S zs n 0 0 = St.mk 120 [(1, .slice (iv zs) 1 .ro), (5, .int .i64 n), (6, .ptr (.out 0) 0), (8, .int .i64 0), (9, .int .i64 0)] [] [] (dsk0 n) := by
      unfold roL_S
      congr 1
      simp only [dskO, dsk, dsk0, set_setOwn, Sto.set, Sto.push, Sto.pushOwn, Sto.empty, Sto.setOwn, List.replicate_zero, bw_nil, List.length_nil, Sto.mk.injEq, true_and]
      refine ⟨?_, ?_⟩
      · funext q; split <;> simp_all
      · funext q; split <;> simp_all
    simp only [] at H
    rw [e] at H
    exact H
  rintro ⟨i, u⟩ ⟨hi, hu⟩ L hL
  simp only [] at hi hu
  refine Eq.mpr (roL_r zs n u i L _) ?_
  simp only [hold_eq, iv_length]
  refine brV_by (fun h => ?_) (fun h => ?_)
  · have hlt : i < zs.length := by simpa using h
    obtain ⟨hb1, hb2⟩ := hzb zs[i] (List.getElem_mem hlt)
    obtain ⟨m, hm, hm9⟩ := mod_pos zs[i] 90 (by decide) (by decide) hb1 hb2
    rw [elemAt_iv zs i hlt]
    simp only [List.getD_cons_zero, AVal.intOf]
    rw [hm]
    obtain ⟨d, hd, hdm⟩ : ∃ d : Nat, m / 2 = d ∧ d ≤ m := ⟨m / 2, rfl, by omega⟩
    have q1 : Int.tdiv (m : Int) 2 = (d : Int) := by rw [Int.tdiv_eq_ediv_of_nonneg (by omega), ← hd]; rfl
    have q2 : IntKind.i64.wrap (d : Int) = (d : Int) := wrap_i64 (by omega) (by omega)
    have q3 : IntKind.i64.wrap ((m : Int) - (d : Int)) = ((m - d : Nat) : Int) := by rw [wrap_i64 (by omega) (by omega)]; omega
    rw [q1]
    simp only [q2, q3, Int.toNat_natCast, rep_bw, i64_succ hlt (show zs.length ≤ 140737488351232 by omega)]
    refine gb_by (dt (by omega)) (gb_by rfl (gb_by (dt (by refine ⟨?_, ?_, ?_, ?_, trivial, by decide⟩ <;> omega)) (gb_by (dt (by refine ⟨?_, ?_, ?_, ?_, trivial, by decide⟩ <;> omega)) ?_)))
    intro y hy
    have hyd : y = decide (u + m ≤ n) := by
      rw [hy]
      simp only [fitsB, hold_eq, List.map_cons, List.map_nil, bytesOf_full, List.flatten_cons, List.flatten_nil, List.append_nil, List.length_append, List.length_replicate, bw_length]
      rw [decide_eq_decide]; omega
    clear hy
    intro y1 hy1
    simp only [map_byteOf_bw, bytesOf_full, List.flatten_cons, List.flatten_nil, List.append_nil, List.replicate_append_replicate] at hy1
    rw [show d + (m - d) = m by omega] at hy1
    have hw : IntKind.i64.wrap ((u : Int) + (m : Int)) = ((u + m : Nat) : Int) := by rw [wrap_i64 (by omega) (by omega)]; omega
    rw [hw]
    simp only [List.all_cons, List.all_nil, bytesIs_bw, bw_byteIs, Bool.and_true, Bool.true_and, bw_length, List.length_replicate]
    refine gb_by (by simp; omega) ?_
    by_cases hf : u + m ≤ n
    · obtain rfl : y = true := by rw [hyd]; exact dt hf
      have hy1 : y1 = List.replicate (u + m) 0 := hy1
      subst hy1
      refine brV_by (fun _ => ?_) (fun h => absurd h (by simp; omega))
      simp only [cond_true, bne_self_eq_false, brV_ft, List.length_replicate]
      refine brV_by' (fun _ => ?_) (fun h => absurd h (by simp))
      refine gb_by (by simp; omega) ?_
      rw [wrap_i64 (n := (n : Int) - ((u + m : Nat) : Int)) (by omega) (by omega)]
      simp only [bne_self_eq_false, brV_ft, brV_ff]
      have := hL (i + 1, u + m) ⟨hlt, hf⟩ (by simp only []; omega)
      have key := dskO_dskO (dsk0 n) n 0 n 0 (bw (List.replicate u 0)) (bw (List.replicate (u + m) 0))
      simp only [roL_S] at this
      rw [← key] at this
      simpa only [dskO, dsk, dsk0, bw_length, List.length_replicate] using this
    · obtain rfl : y = false := by rw [hyd]; exact decide_eq_false hf
      have hy1 : y1 = List.replicate u 0 := hy1
      subst hy1
      refine brV_by (fun h => absurd h (by simp; omega)) (fun _ => ?_)
      simp only [cond_false, bne_self_eq_false, brV_ft, List.length_replicate]
      refine brV_by' (fun _ => ?_) (fun h => absurd h (by simp))
      refine gb_by (by simp; omega) ?_
      rw [wrap_i64 (n := (n : Int) - (u : Int)) (by omega) (by omega)]
      simp only [bne_self_eq_false, brV_ft, brV_ff]
      have := hL (i + 1, u) ⟨hlt, hu⟩ (by simp only []; omega)
      have key := dskO_dskO (dsk0 n) n 0 n 0 (bw (List.replicate u 0)) (bw (List.replicate u 0))
      simp only [roL_S] at this
      rw [← key] at this
      simpa only [dskO, dsk, dsk0, bw_length, List.length_replicate] using this
  · have hge : ¬ i < zs.length := by simpa using h
    refine leaveTo (toCut (Eq.mpr (roF_r n u _) ?_))
    have hw : IntKind.i64.wrap ((n : Int) - (u : Int)) = ((n - u : Nat) : Int) := by rw [wrap_i64 (by omega) (by omega)]; omega
    simp only [hold_eq, bw_length, List.length_replicate, beq_self_eq_true, brV_tt, hw, Int.toNat_natCast, rep_bw]
    refine gb_by (dt (by refine ⟨?_, ?_, ?_, ?_, trivial, by decide⟩ <;> omega)) ?_
    intro y hy
    obtain rfl : y = true := by
      rw [hy]
      simp only [fitsB, hold_eq, List.map_cons, List.map_nil, bytesOf_full, List.flatten_cons, List.flatten_nil, List.append_nil, List.length_append, List.length_replicate, bw_length]
      exact dt (by omega)
    intro y1 hy1
    simp only [cond_true, map_byteOf_bw, bytesOf_full, List.flatten_cons, List.flatten_nil, List.append_nil, List.replicate_append_replicate] at hy1
    rw [show u + (n - u) = n by omega] at hy1
    subst hy1
    refine gb_by (by simp [bytesIs_bw]; omega) ?_
    simp only [cond_true, beq_self_eq_true, brV_tt, List.length_replicate, Int.sub_self]
    refine gb_by (by simp; omega) ?_
    intro y hy
    obtain rfl : y = false := by
      rw [hy]
      simp only [fitsB, hold_eq, List.map_cons, List.map_nil, List.flatten_cons, List.flatten_nil, List.append_nil, List.length_append, List.length_replicate, bw_length, bytesOfV, AVal.elems, List.length_cons, List.length_nil]
      exact decide_eq_false (by omega)
    intro y2 hy2
    refine gb_by (by simp; omega) ?_
    simp
end Go.Proofs.Ytekcekddahkajaa
