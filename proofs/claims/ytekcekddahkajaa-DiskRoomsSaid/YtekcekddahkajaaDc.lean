/-
  Seat 07 (disk): contracts.
-/
import Derived.Test.YtekcekddahkajaaDr
namespace Go.Proofs.Ytekcekddahkajaa
open Go.AL
set_option linter.unusedSimpArgs false
set_option linter.unusedVariables false
set_option maxHeartbeats 4000000
set_option maxRecDepth 20000

theorem dskAt_eq {σ : Sto} {r s : Int} {bs : List AVal} {w : Nat} {t : Tag} (h : dskAt σ = some (r, s, bs, w, t)) : σ.set 0 (.cells [.int .i64 r, .int .i64 s, .slice bs w t]) = σ := by
  unfold dskAt at h
  split at h
  · rename_i heq
    cases h
    exact set_same heq
  · cases h

theorem new_ok : EntOk Try.prog newE := by
  intro xs σ; simp only [newE]; split
  · rename_i r
    intro hc
    simp only [Bool.and_eq_true, hold_eq, decide_eq_true_eq] at hc
    refine ACall.growCell (o := σ.nobj) (j := 2) (s := 0) (w := 1) ?_
    refine new_i _ _ _ (.of_none rfl) ?_
    simp only [hold_eq]
    refine brV_by' (fun _ => brV_by (fun h => ?_) (fun _ => ?_)) (fun h => ?_)
    · simp at h; omega
    · refine ⟨[.int .i64 r, .int .i64 0, .slice [] 0 .nil], by simp [Sto.push], rfl, trivial, ?_⟩
      simp only [Sto.push, Sto.set, Sto.pushOwn, Sto.mk.injEq, true_and, and_true]
      refine ⟨?_, rfl⟩
      funext n; split <;> rfl
    · simp at h; omega
  · trivial

theorem left_ok : EntOk Try.prog leftE := by
  intro xs σ; simp only [leftE]; split
  · rename_i r s bs w t heq
    intro hc
    simp only [Bool.and_eq_true, hold_eq, decide_eq_true_eq] at hc
    have e := dskAt_eq heq
    unfold FCall
    rw [← e]
    refine left_i _ _ _ _ _ _ _ (.of_none rfl) ⟨?_, rfl⟩
    rw [wrap_i64 (by omega) (by omega)]
  · trivial

theorem len_ok : EntOk Try.prog lenE := by
  intro xs σ; simp only [lenE]; split
  · rename_i r s bs w t heq
    intro hc
    unfold FCall
    rw [← dskAt_eq heq]
    exact len_i _ _ _ _ _ _ _ (.of_none rfl) ⟨rfl, rfl⟩
  · trivial

theorem safe_ok : EntOk Try.prog safeE := by
  intro xs σ; simp only [safeE]; split
  · rename_i r s bs w t heq
    intro hc
    unfold FCall
    rw [← dskAt_eq heq]
    exact safe_i _ _ _ _ _ _ _ (.of_none rfl) ⟨rfl, rfl⟩
  · trivial

theorem flush_ok : EntOk Try.prog flushE := by
  intro xs σ; simp only [flushE]; split
  · rename_i r s bs t heq
    intro hc
    unfold FCall
    rw [← dskAt_eq heq]
    exact flush_i _ _ _ _ _ _ (.of_none rfl) ⟨rfl, by simp only [dsk, set_set]⟩
  · trivial

theorem crash_ok : EntOk Try.prog crashE := by
  intro xs σ; simp only [crashE]; split
  · rename_i k r s bs t heq
    intro hc
    simp only [Bool.and_eq_true, hold_eq, decide_eq_true_eq] at hc
    unfold FCall
    rw [← dskAt_eq heq]
    refine crash_i _ _ _ _ _ _ _ (.of [flushE] rfl ⟨flush_ok, trivial⟩) ?_
    have e1 : IntKind.i64.wrap ((bs.length : Int) - s) = (bs.length : Int) - s := wrap_i64 (by omega) (by omega)
    have e2 : (if (bs.length : Int) - s < if k < 0 then 0 else k then (bs.length : Int) - s else if k < 0 then 0 else k) = min (max k 0) ((bs.length : Int) - s) := by
      split <;> split <;> omega
    have e3 : IntKind.i64.wrap (s + min (max k 0) ((bs.length : Int) - s)) = keepN k s bs.length := by
      rw [wrap_i64 (by omega) (by omega)]; rfl
    simp only [e1, e2, e3]
    have hk : 0 ≤ keepN k s bs.length ∧ keepN k s bs.length ≤ bs.length := by unfold keepN; omega
    have e4 : ((bs.take ((keepN k s bs.length).toNat - 0)).length : Int) = keepN k s bs.length := by rw [List.length_take]; omega
    have e5 : ∀ x, sliceTag none (some x) t = cutT t := fun x => by cases t <;> rfl
    refine gb_by (dt ⟨by omega, hk⟩) ⟨?_, ?_⟩
    · rw [e4]
    · rw [Nat.sub_zero] at e4
      simp only [set_set, dsk, e5, Nat.sub_zero, e4]
      rw [← List.map_take, ← bw_of (by rw [List.all_eq_true] at hc ⊢; exact fun x hx => hc.1 x (List.mem_of_mem_take hx))]
  · trivial

theorem clone_c (l : List UInt8) (hl : l.length ≤ 140737488351232) : ACall Try.prog 20 [.slice (bw l) 1 .ro] Sto.empty fun r _ => Wk r (.slice (bw l) 1 .ro) := by
  refine clone_i _ _ (.of_none rfl) ?_
  intro b hb1 _
  refine brV_by (fun h => ?_) (fun h => ?_)
  · have hl : l = [] := by
      have := hb1 (by simpa using h)
      cases l with
      | nil => rfl
      | cons a l => simp [bw] at this
    subst hl
    exact Wk.nil _ _ _
  · exact gb_by (by simp; omega) (Wk.ro _ _ _)

theorem clone_ok : EntOk Try.prog cloneE := by
  intro xs σ; simp only [cloneE]; split
  · rename_i es s t
    intro hc
    simp only [Bool.and_eq_true, hold_eq, decide_eq_true_eq] at hc
    obtain ⟨h1, h2, h3⟩ := hc
    exact pcall_of (.cons (wk_bw t h1 h2) (.refl _)) (clone_c _ (by simpa using h3)) (by simp [noOutL, AVal.noOut, bw_noOut]) (by simp [noTokL, AVal.noTok, bw_noTok, Tag.below]) (by simp [AVal.noOut, bw_noOut]) (by simp [AVal.noTok, bw_noTok, Tag.below])
  · trivial

theorem bytes_ok : EntOk Try.prog bytesE := by
  intro xs σ; simp only [bytesE]; split
  · rename_i r s bs t heq
    intro hc
    simp only [Bool.and_eq_true, hold_eq, decide_eq_true_eq] at hc
    unfold FCall
    rw [← dskAt_eq heq]
    refine bytes_i _ _ _ _ _ _ (.of [cloneE] rfl ⟨clone_ok, trivial⟩) ?_
    rintro _ rfl
    refine gb_by (by simp [okW_same, hc.1]; omega) ⟨rfl, rfl⟩
  · trivial

theorem dskO_step (σ : Sto) (r s s' : Int) (bs bs' : List AVal) : ((dskO σ r s bs).setOwn 0 bs'.length).set 0 (.cells [.int .i64 r, .int .i64 s', .slice bs' 1 (.own 0)]) = dskO σ r s' bs' := by
  simp only [dskO, dsk, set_setOwn, set_set, setOwn_setOwn]

theorem flatten_take {α : Type} {ls : List (List α)} {i : Nat} (h : i < ls.length) : (ls.take (i + 1)).flatten = (ls.take i).flatten ++ ls[i] := by
  rw [List.take_succ_eq_append_getElem h, List.flatten_append]
  simp only [List.flatten_cons, List.flatten_nil, List.append_nil]
theorem flatten_le {α : Type} (ls : List (List α)) (i : Nat) : (ls.take i).flatten.length ≤ ls.flatten.length := by
  have : ls.flatten = (ls.take i).flatten ++ (ls.drop i).flatten := by rw [← List.flatten_append, List.take_append_drop]
  rw [this]; simp

/-- Append, where all fits, and where it doesn't. -/
theorem app_c (σ : Sto) (r s : Int) (l : List UInt8) (ls : List (List UInt8)) (h0 : (l.length : Int) ≤ r) (hr : r ≤ 1073741824) (hls : ls.length ≤ 1000000000) :
    ACall Try.prog 9 [.ptr (.out 0) 0, .slice (bws ls) 1 .ro] (dskO σ r s (bw l)) fun v τ =>
      (((l.length + ls.flatten.length : Nat) : Int) ≤ r ∧ v = .int .i64 0 ∧ τ = dskO σ r s (bw (l ++ ls.flatten))) ∨ (r < ((l.length + ls.flatten.length : Nat) : Int) ∧ v = .int .i64 50 ∧ τ = dskO σ r s (bw l)) := by
  refine app_i _ _ _ _ _ _ (.of [leftE] rfl ⟨left_ok, trivial⟩) ?_
  simp only [hold_eq]
  refine gb_by (by simp; omega) ?_
  refine loopV_intro (α := Nat × Int) (fun x => appA_S σ r s l ls x.2 x.1) (fun x => x.1 ≤ ls.length ∧ ((l.length + (ls.take x.1).flatten.length : Nat) : Int) ≤ r ∧ x.2 = r - ((l.length + (ls.take x.1).flatten.length : Nat) : Int)) (fun x => ls.length - x.1) ?_ (0, r - ((bw l).length : Int)) ⟨Nat.zero_le _, by simpa using h0, by simp⟩
  rintro ⟨i, m⟩ ⟨hi, hm, he⟩ L hL
  simp only [] at hi hm he
  subst he
  refine Eq.mpr (appA_r σ r s l ls _ i L _) ?_
  simp only [hold_eq, bws_length]
  refine brV_by (fun h => ?_) (fun h => ?_)
  · have hlt : i < ls.length := by simpa using h
    rw [elemAt_bws ls i hlt]
    have hft := flatten_take hlt
    have hle := flatten_le ls (i + 1)
    rw [hft] at hle
    simp only [List.getD_cons_zero, AVal.elems, bw_length, i64_succ hlt (by omega)]
    refine gb_by (dt (by omega)) (gb_by rfl (brV_by (fun h => ?_) (fun h => ?_)))
    · have h : r - ((l.length + (ls.take i).flatten.length : Nat) : Int) < (ls[i].length : Int) := by simpa using h
      refine Or.inr ⟨?_, rfl, by simp only [dskO, dsk, bw_length]⟩
      simp only [List.length_append] at hle
      omega
    · have h : (ls[i].length : Int) ≤ r - ((l.length + (ls.take i).flatten.length : Nat) : Int) := by simpa using h
      rw [wrap_i64 (by omega) (by omega)]
      have := hL (i + 1, r - ((l.length + (ls.take i).flatten.length : Nat) : Int) - (ls[i].length : Int)) ⟨hlt, by simp only []; rw [hft, List.length_append]; omega, by simp only []; rw [hft, List.length_append]; omega⟩ (by simp only []; omega)
      simpa only [appA_S, bws_length, dskO, dsk, bw_length] using this
  · have hge : ¬ i < ls.length := by simpa using h
    rw [List.take_of_length_le (by omega)] at hm
    refine leaveTo (toCut (Eq.mpr (appM_r σ r s l ls _) ?_))
    refine loopV_intro (α := Nat) (fun i => appB_S σ r s (l ++ (ls.take i).flatten) ls i) (fun i => i ≤ ls.length) (fun i => ls.length - i) ?_ 0 (Nat.zero_le _) |> fun H => by
      have := H
      simp only [List.take_zero, List.flatten_nil, List.append_nil] at this
      exact this
    intro i hi L' hL'
    refine Eq.mpr (appB_r σ r s _ ls i L' _) ?_
    simp only [hold_eq, bws_length]
    refine brV_by (fun h => ?_) (fun h => ?_)
    · have hlt : i < ls.length := by simpa using h
      rw [elemAt_bws ls i hlt]
      have hft := flatten_take hlt
      have hle := flatten_le ls (i + 1)
      rw [hft] at hle
      simp only [List.length_append] at hle
      simp only [List.getD_cons_zero, AVal.elems, bw_length, i64_succ hlt (by omega), ← bw_append]
      have := hL' (i + 1) hlt (by omega)
      rw [hft, ← List.append_assoc] at this
      refine gb_by (dt (by omega)) (gb_by rfl (gb_by (by simp only [decide_eq_true_eq, true_and, and_true, List.length_append]; omega) ?_))
      have key := dskO_step σ r s s (bw (l ++ (ls.take i).flatten)) (bw (l ++ (ls.take i).flatten ++ ls[i]))
      simp only [appB_S, bws_length] at this
      rw [← key] at this
      simpa only [bw_length, List.length_append, dskO, dsk] using this
    · have hge : ¬ i < ls.length := by simpa using h
      refine leaveTo (toCut (Eq.mpr (appF_r σ r s _ _) ?_))
      rw [List.take_of_length_le (by omega)]
      exact Or.inl ⟨hm, rfl, rfl⟩

theorem app_ok : EntOk Try.prog appE := by
  intro xs σ; simp only [appE]; split
  · rename_i es w' t' r s bs heq
    intro hc
    simp only [Bool.and_eq_true, hold_eq, decide_eq_true_eq] at hc
    obtain ⟨h1, h2, h3, h4, h5, h6, h7⟩ := hc
    unfold FCall
    have e : dskO σ r s bs = σ := by
      have := dskAt_eq heq
      unfold dskO dsk
      rw [this, setOwn_same h4]
    refine ACall.args ?_ (.cons (.refl _) (.cons (wk_bws t' h1 h2) (.refl _)))
    have hb := bw_of h3
    have H := app_c σ r s (bs.map AL.byteOf) (es.map bytesOfV) (by simpa using h5) h6 (by simpa using h7)
    rw [← hb, e] at H
    refine H.mono fun v τ hv => ?_
    have ef : fitsB r bs es = decide ((((bs.map AL.byteOf).length + (es.map bytesOfV).flatten.length : Nat) : Int) ≤ r) := by
      simp only [fitsB, hold_eq, List.length_map, Int.natCast_add]
    rcases hv with ⟨q1, q2, q3⟩ | ⟨q1, q2, q3⟩
    · rw [ef, decide_eq_true q1, q2, q3]
      exact ⟨rfl, rfl⟩
    · have : decide ((((bs.map AL.byteOf).length + (es.map bytesOfV).flatten.length : Nat) : Int) ≤ r) = false := decide_eq_false (by omega)
      rw [ef, this, q2, q3]
      refine ⟨rfl, ?_⟩
      show σ = dskO σ r s (bw (bs.map AL.byteOf))
      rw [← hb]
      exact e.symm
  · trivial
end Go.Proofs.Ytekcekddahkajaa
