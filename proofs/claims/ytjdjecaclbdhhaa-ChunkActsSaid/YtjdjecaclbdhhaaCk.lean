/-
  Seat 10 (chunk): contracts: a number taken out of a row; Insert; Remove.
-/
import Derived.Test.YtjdjecaclbdhhaaCj
import Derived.Test.YtjdjecaclbdhhaaCx
namespace Go.Proofs.Ytjdjecaclbdhhaa
open Go.AL
set_option linter.unusedSimpArgs false
set_option linter.unusedVariables false
set_option maxHeartbeats 4000000
set_option maxRecDepth 20000

theorem rem1_ok : EntOk Try.prog rem1E := by
  intro xs σ; simp only [rem1E]; split
  · rename_i a x
    intro _
    refine pcall_of (.refl _) (rem1_i a x _ (.of_none rfl) ?_) rfl rfl rfl rfl
    simp only [hold_eq]
    exact Wk.refl _
  · trivial
theorem indexD_c (l : List Int) (J : List AVal) (n c : Nat) (x : Int) (hn : n = l.length) (hl : l.length ≤ 1000000) :
    ACall Try.prog 51 [.arr (.out 0) 0 n c, .func (.func 36) [] [.iptr [.int .i64 x]]] (Sto.one (.cells (iv l ++ J))) fun r τ => r = .int .i64 (if l.contains x then (l.idxOf x : Int) else -1) ∧ τ = Sto.one (.cells (iv l ++ J)) := by
  refine indexD_i _ n c x _ (.of [rem1E] rfl ⟨rem1_ok, trivial⟩) ?_
  have hil : (iv l).length = l.length := iv_length l
  have hcl : (iv l ++ J).length = l.length + J.length := by rw [List.length_append, hil]
  refine loopV_intro (α := Nat) (fun i => indexDL_S (iv l ++ J) n c x n i) (fun i => i ≤ l.length ∧ ∀ y ∈ l.take i, y ≠ x) (fun i => l.length - i) ?_ 0 ⟨Nat.zero_le _, fun x hx => by simp at hx⟩
  rintro i ⟨hi, hpre⟩ L hL
  refine Eq.mpr (indexDL_r (iv l ++ J) n c x n i L _) ?_
  simp only [hold_eq]
  refine brV_by (fun h => ?_) (fun h => ?_)
  · have hlt : i < l.length := by have := of_decide_eq_true h; omega
    have hg : (iv l ++ J).getD (0 + Int.toNat (i : Int) * 1) .undef = .int .i64 l[i] := by
      rw [Int.toNat_natCast, Nat.mul_one, Nat.zero_add, List.getD_eq_getElem?_getD, List.getElem?_append_left (by omega)]
      simp [iv, hlt]
    rw [i64_succ hlt (by omega), hg]
    refine gb_by (dt (by omega)) (gb_by (and_tt (dt (by rw [Int.toNat_natCast]; omega)) rfl) (brV_by (fun h => ?_) (fun h => ?_)))
    · have e : l[i] = x := by
        have h : (l[i] == x) = true := h
        simpa using h
      have hc : l.contains x = true := by rw [← e]; simp
      have hx : l.idxOf x = i := by
        unfold List.idxOf
        rw [List.findIdx_eq hlt]
        refine ⟨by simp [e], fun j hj => ?_⟩
        have := hpre l[j] (List.mem_take_iff_getElem.2 ⟨j, by omega, rfl⟩)
        simpa using this
      rw [if_pos hc, hx]
      exact ⟨rfl, rfl⟩
    · have e : l[i] ≠ x := by
        have h : (l[i] == x) = false := h
        simpa using h
      refine hL (i + 1) ⟨hlt, fun y hy => ?_⟩ (by omega)
      rw [List.take_succ_eq_append_getElem hlt] at hy
      rcases List.mem_append.1 hy with h1 | h1
      · exact hpre y h1
      · simp at h1; subst h1; exact e
  · have hge : ¬ i < l.length := by have := of_decide_eq_false h; omega
    rw [List.take_of_length_le (by omega)] at hpre
    have hc : ¬ l.contains x = true := by
      intro hc
      have : x ∈ l := by simpa using hc
      exact hpre x this rfl
    rw [if_neg hc]
    exact ⟨rfl, rfl⟩
theorem isSto_mk (σ : Sto) : isSto σ σ = true := by
  unfold isSto
  rw [hold_eq]
  exact @decide_eq_true _ (Classical.propDecidable _) rfl
theorem isSto_of {σ τ : Sto} (h : isSto σ τ = true) : σ = τ := by
  unfold isSto at h
  rw [hold_eq] at h
  exact @of_decide_eq_true _ (Classical.propDecidable _) h
theorem indexD_ok : EntOk Try.prog indexDE := by
  intro xs σ; simp only [indexDE]; split
  · rename_i k n c g x
    split
    · rename_i cs hk
      intro hc
      simp only [Bool.and_eq_true, hold_eq, decide_eq_true_eq] at hc
      obtain ⟨h1, h2, h3, h4, h5, h6⟩ := hc
      have h1 := Nat.eq_of_beq_eq_true h1
      have h2 := Nat.eq_of_beq_eq_true h2
      subst h1; subst h2
      have h3 := isSto_of h3
      have e := iv_of h4
      have := indexD_c ((cs.take n).map AVal.intOf) (cs.drop n) n c x (by simp; omega) (by simp; omega)
      rw [← e, List.take_append_drop] at this
      rw [h3]
      exact this
    · trivial
  · trivial
theorem remS_take1 (l : List Int) (x : Int) (j : Nat) (h : j < l.length) : remS (l.take (j + 1)) x = remS (l.take j) x ++ (if l[j] = x then [] else [l[j]]) := by
  rw [List.take_succ_eq_append_getElem h]
  unfold remS
  rw [List.filter_append]
  by_cases e : l[j] = x
  · simp [e]
  · simp [e]
theorem delF_c (l : List Int) (x : Int) (hl : l.length ≤ 1000000) (j c : Nat) (hc : (iv l).length ≤ c) (hj : (iv l).length * 1 + j = c * 1) (hcm : c ≤ 9223372036854775807) :
    ACall Try.prog 35 [.arr (.out 0) 0 (iv l).length c, .func (.func 36) [] [.iptr [.int .i64 x]]] (Sto.one (.cells (flat (iv l) ++ List.replicate j .undef))) fun r τ =>
      Wk r (.slice (iv (remS l x)) 1 .ro) ∨ ∃ o cap tl, r = .arr (.out o) 0 (iv (remS l x)).length cap ∧ τ.obj o = some (.cells (flat (iv (remS l x)) ++ tl)) ∧ cap ≤ 9223372036854775807 := by
  have hil : (iv l).length = l.length := iv_length l
  have hrl : (iv (remS l x)).length = (remS l x).length := iv_length _
  rw [flat_iv, flat_iv, hrl]
  generalize hJ : List.replicate j AVal.undef = J
  have hcl : (iv l ++ J).length = l.length + J.length := by rw [List.length_append, hil]
  have hJl : J.length = j := by rw [← hJ]; simp
  refine delF_i _ (iv l).length c x _ (.of [rem1E, indexDE] rfl ⟨rem1_ok, indexD_ok, trivial⟩) ?_
  have htk : (iv l ++ J).take (iv l).length = iv l := by simp
  simp only [hold_eq, htk, map_intOf_iv]
  intro y hy i0 hi0
  refine gb_by (and_tt (isSto_mk _) (and_tt (iv_isI64 _) (dt ⟨by omega, by omega⟩))) (brV_by (fun h => ?_) (fun h => ?_))
  · have h : i0 = -1 := by
      have h : (i0 == -1) = true := h
      simpa using h
    have hx : x ∉ l := by
      intro hm
      rw [if_pos (by rw [hy]; simpa using hm)] at hi0
      omega
    rw [remS_none hx, ← hil]
    exact .inr ⟨0, c, J, rfl, rfl, hcm⟩
  have h : i0 ≠ -1 := by
    have h : (i0 == -1) = false := h
    simpa using h
  have hm : x ∈ l := by
    cases hyb : y with
    | true => rw [hyb] at hy; simpa using hy.symm
    | false => rw [hyb, if_neg (by simp)] at hi0; exact (h hi0).elim
  rw [if_pos (by rw [hy]; simpa using hm)] at hi0
  have hlt0 : l.idxOf x < l.length := List.idxOf_lt_length_of_mem hm
  have hw : IntKind.i64.wrap ((l.idxOf x : Int) + 1) = ((l.idxOf x + 1 : Nat) : Int) := i64_succ hlt0 (by omega)
  rw [hi0, hw]
  have hpre : remS (l.take (l.idxOf x)) x = l.take (l.idxOf x) := remS_none fun hm2 => by
    obtain ⟨k, hk, e⟩ := List.mem_take_iff_getElem.1 hm2
    have h3 : k < l.idxOf x := by omega
    have := List.not_of_lt_findIdx (p := (· == x)) (xs := l) h3
    simp at this
    exact this e
  have hgx : l[l.idxOf x] = x := by simp
  have hin : remS (l.take (l.idxOf x + 1)) x = l.take (l.idxOf x) := by rw [remS_take1 l x _ hlt0, if_pos hgx, List.append_nil, hpre]
  refine loopV_intro (α := Nat × Nat × List Int × List AVal) (fun s => delFL_S s.2.2.2 (iv l).length c x s.1 s.2.1)
    (fun s => s.1 < s.2.1 ∧ s.2.1 ≤ l.length ∧ (remS (l.take s.2.1) x).length = s.1 ∧ s.2.2.1.length = s.2.1 - s.1 ∧ s.2.2.2 = iv (remS (l.take s.2.1) x ++ (s.2.2.1 ++ l.drop s.2.1)) ++ J) (fun s => l.length - s.2.1) ?_ (l.idxOf x, l.idxOf x + 1, [x], iv l ++ J) ⟨by simp, by simp only; omega, ?_, by simp, ?_⟩
  rotate_left
  · simp only [hin, List.length_take]; omega
  · simp only [hin]
    congr 2
    have := List.take_append_drop (l.idxOf x) l
    rw [List.drop_eq_getElem_cons hlt0, hgx] at this
    exact this.symm
  rintro ⟨i, k, b, cs⟩ ⟨g1, g2, g3, g4, g5⟩ L hL
  simp only at g1 g2 g3 g4 g5
  subst g5
  generalize ha : remS (l.take k) x = a at *
  refine Eq.mpr (delFL_r (iv (a ++ (b ++ l.drop k)) ++ J) (iv l).length c x i k L _) ?_
  have hlc : (iv (a ++ (b ++ l.drop k)) ++ J).length = l.length + J.length := by
    rw [List.length_append, iv_length, List.length_append, List.length_append, List.length_drop]; omega
  simp only [hold_eq, Int.toNat_natCast, Nat.mul_one, Nat.zero_add, one_set, hlc]
  refine brV_by (fun h => ?_) (fun h => ?_)
  · have hlt : k < l.length := by have := of_decide_eq_true h; omega
    have ed : l.drop k = l[k] :: l.drop (k + 1) := List.drop_eq_getElem_cons hlt
    have hg : (iv (a ++ (b ++ l.drop k)) ++ J).getD k .undef = .int .i64 l[k] := by
      rw [List.getD_eq_getElem?_getD, List.getElem?_append_left (by rw [iv_length, List.length_append, List.length_append, List.length_drop]; omega)]
      unfold iv
      rw [List.getElem?_map, List.getElem?_append_right (by omega), List.getElem?_append_right (by omega), List.getElem?_drop, show k + (k - a.length - b.length) = k by omega, List.getElem?_eq_getElem hlt]; rfl
    rw [hg]
    have e1 := remS_take1 l x k hlt
    rw [ha] at e1
    refine gb_by (dt (by omega)) (gb_by (and_tt (dt (by omega)) rfl) (brV_by (fun h => ?_) (fun h => ?_)))
    · have hne : l[k] ≠ x := by
        have h : (!(l[k] == x)) = true := h
        simpa using h
      rw [if_neg hne] at e1
      refine gb_by (dt (by omega)) (gb_by (dt ⟨by omega, fun _ => rfl⟩) (toCut ?_))
      obtain ⟨b0, b', rfl⟩ : ∃ b0 b', b = b0 :: b' := by
        cases b with
        | nil => simp at g4; omega
        | cons x y => exact ⟨x, y, rfl⟩
      have es : setRange (iv (a ++ (b0 :: b' ++ l.drop k)) ++ J) i [.int .i64 (AVal.intOf (.int .i64 l[k]))] = iv ((a ++ [l[k]]) ++ ((b' ++ [l[k]]) ++ l.drop (k + 1))) ++ J := by
        unfold setRange
        have q1 : iv (a ++ (b0 :: b' ++ l.drop k)) ++ J = iv a ++ ([AVal.int .i64 b0] ++ (iv (b' ++ l.drop k) ++ J)) := by simp [iv]
        have ia : (iv a).length = i := by rw [iv_length, g3]
        rw [q1, List.take_append_of_le_length (by omega), List.take_of_length_le (by omega)]
        have q2 : (iv a ++ ([AVal.int .i64 b0] ++ (iv (b' ++ l.drop k) ++ J))).drop (i + [AVal.int .i64 (AVal.intOf (.int .i64 l[k]))].length) = iv (b' ++ l.drop k) ++ J := by
          rw [← ia, List.drop_length_add_append]; rfl
        rw [q2, ed]
        simp [iv, AVal.intOf]
      rw [es]
      have hwi : IntKind.i64.wrap ((i : Int) + 1) = ((i + 1 : Nat) : Int) := i64_succ (show i < l.length by omega) (by omega)
      have hwk : IntKind.i64.wrap ((k : Int) + 1) = ((k + 1 : Nat) : Int) := i64_succ hlt (by omega)
      refine Eq.mpr (delFJ_r _ _ _ _ i k _) (inBlock (toCut ?_))
      rw [hwi]
      refine Eq.mpr (delFI_r _ _ _ _ (i + 1) k _) ?_
      rw [hwk]
      refine thenN (hL (i + 1, k + 1, b' ++ [l[k]], _) ⟨by simp only; omega, hlt, ?_, ?_, ?_⟩ (by simp only; omega))
      · simp only [e1, List.length_append, List.length_singleton]; omega
      · simp only [List.length_append, List.length_singleton]
        simp only [List.length_cons] at g4; omega
      · simp only [e1]
    · have heq : l[k] = x := by
        have h : (!(l[k] == x)) = false := h
        simpa using h
      rw [if_pos heq, List.append_nil] at e1
      have hwk : IntKind.i64.wrap ((k : Int) + 1) = ((k + 1 : Nat) : Int) := i64_succ hlt (by omega)
      refine toCut ?_
      refine Eq.mpr (delFI_r _ _ _ _ i k _) ?_
      rw [hwk]
      refine thenN (hL (i, k + 1, b ++ [l[k]], _) ⟨by simp only; omega, hlt, ?_, ?_, ?_⟩ (by simp only; omega))
      · simp only [e1]; exact g3
      · simp only [List.length_append, List.length_singleton]; omega
      · simp only [e1, ed]; simp
  · have hk : k = l.length := by have := of_decide_eq_false h; omega
    subst hk
    rw [List.take_length] at ha
    refine leaveTo (toCut (Eq.mpr (delFF_r _ (iv l).length c i _) ?_))
    rw [ha]
    simp only [Int.toNat_natCast, Nat.mul_one, Nat.zero_add, one_set, hlc, Nat.sub_zero]
    refine gb_by (dt (by omega)) (gb_by (dtt (dt ⟨by omega, trivial⟩)) (gb_by (dt (by omega)) ?_))
    obtain ⟨tl, htl⟩ := pre_of (C := setRange (iv (a ++ (b ++ l.drop l.length)) ++ J) i (flat (List.replicate ((iv l).length - i) (AVal.int .i64 0)))) (P := iv a) fun q hq => by
      rw [iv_length, g3] at hq
      have hfl : (flat (List.replicate ((iv l).length - i) (AVal.int .i64 0))).length = (iv l).length - i := by
        rw [flat_rep (show ((AVal.int .i64 0) : AVal).cells = [(AVal.int .i64 0)] from rfl), List.length_replicate]
      rw [setRange_get (by rw [hlc, hfl]; omega), if_pos hq, iv_append, List.append_assoc, List.getElem?_append_left (by rw [iv_length]; omega)]
    refine .inr ⟨0, c, tl, by rw [g3], ?_, hcm⟩
    rw [← htl]; rfl
theorem remI_eq {es : List AVal} (h : es.all isI64 = true) (x : Int) : remI es x = remS (es.map AVal.intOf) x := rfl
theorem delF_ok : EntOk Try.prog delFE := by
  intro xs σ; simp only [delFE]; split
  · rename_i k n f x
    split
    · rename_i es s g hk
      intro hc
      simp only [Bool.and_eq_true, hold_eq, decide_eq_true_eq] at hc
      obtain ⟨h0, h1, h2, h3, rfl, h6, h7⟩ := hc
      have h0 := Nat.eq_of_beq_eq_true h0
      have h1 := Nat.eq_of_beq_eq_true h1
      have h2 := Nat.eq_of_beq_eq_true h2
      subst h0; subst h1; subst h2
      have e := iv_of h3
      rw [remI_eq h3]
      refine ACall.openRow (es' := iv (remS (es.map AVal.intOf) x)) hk (by rw [e]; exact iv_noOut 0 _) (by rw [e]; exact iv_noTok 0 _) rfl rfl (iv_noOut 0 _) (iv_noTok 0 _) (fun y hy => ?_) (fun he => ?_) (fun jj c c1 c2 c3 => ?_)
      · obtain ⟨z, _, rfl⟩ := List.mem_map.1 hy
        rfl
      · rw [he] at h6; cases h6
      · have := delF_c (es.map AVal.intOf) x (by simpa using h7) jj c (by rw [← e]; exact c1) (by rw [← e]; exact c2) c3
        rw [← e] at this
        exact this
    · trivial
  · trivial
end Go.Proofs.Ytjdjecaclbdhhaa
