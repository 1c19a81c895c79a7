/-
  Seat 12 (limbo): the law LimboWaits.
-/
import Derived.Test.YtakidnohmfebmaaLu
import Derived.Test.YtakidnohmfebmaaLv
namespace Go.Proofs.Ytakidnohmfebmaa
open Go.AL
set_option linter.unusedSimpArgs false
set_option linter.unusedVariables false
set_option maxHeartbeats 4000000
set_option maxRecDepth 20000

theorem lim_gb {σ : Sto} {N : Nat} {row : List Key} {m : List (Key × Int)} {b : Bool} {X : Prop} (h : σ = limS N row m) (hb : b = true) (x : X) : gb (isLim σ N row m && b) X := by
  subst h
  exact gb_by (by rw [isLim_self, hb]; rfl) x

theorem lim_gb2 {σ : Sto} {N : Nat} {row : List Key} {m : List (Key × Int)} {a b : Bool} {X : Prop} (h : σ = limS N row m) (ha : a = true) (hb : b = true) (x : X) : gb (a && (isLim σ N row m && b)) X := by
  subst h
  exact gb_by (by rw [isLim_self, ha, hb]; rfl) x

theorem awake_c : ACall Try.prog 6 [] Sto.empty fun r _ => Wk r (.bool true) := by
  refine awake_i _ (.of [newE, keyE, retireE, takeE, sameE] rfl ⟨new_ok, key_ok, retire_ok, take_ok, same_ok, trivial⟩) ?_
  simp only [hold_eq, map_keyOf, valOf_mv, kv_length, kv_is]
  refine gb_by (by simp only [isNew, hold_eq, decide_eq_true_eq]) ?_
  rintro _ rfl
  refine lim_gb rfl rfl ?_
  intro y hy
  obtain rfl : y = (2, [(1, 2, 0, []), (1, 1, 0, [])], [((1, 1, 0, []), 5), ((1, 2, 0, []), 3)]) := by rw [hy]; rfl
  refine lim_gb rfl rfl ?_
  intro a ha
  obtain rfl : a = [(1, 2, 0, [])] := by rw [ha]; rfl
  intro b hb
  obtain rfl : b = [(1, 1, 0, [])] := by rw [hb]; rfl
  intro c hc
  obtain rfl : c = [((1, 1, 0, []), 5)] := by rw [hc]; rfl
  refine lim_gb rfl rfl ?_
  intro a ha
  obtain rfl : a = [] := by rw [ha]; rfl
  intro b hb
  obtain rfl : b = [(1, 1, 0, [])] := by rw [hb]; rfl
  intro c hc
  obtain rfl : c = [((1, 1, 0, []), 5)] := by rw [hc]; rfl
  refine lim_gb rfl rfl ?_
  intro a ha
  obtain rfl : a = [(1, 1, 0, [])] := by rw [ha]; rfl
  intro b hb
  obtain rfl : b = [] := by rw [hb]; rfl
  intro c hc
  obtain rfl : c = [] := by rw [hc]; rfl
  refine lim_gb rfl rfl ?_
  refine gb_by rfl (brV_by (fun _ => brV_by (fun _ => gb_by rfl (Wk.refl _)) (fun h => ?_)) (fun h => ?_))
  · simp at h
  · simp at h

theorem awake_ok : EntOk Try.prog awakeE := by
  intro xs σ; simp only [awakeE]; split
  · intro _
    exact pcall_of (.refl _) awake_c rfl rfl rfl rfl
  · trivial

theorem elemAt_av (acts : List Act) (i : Nat) (h : i < acts.length) : elemAt (av acts) (i : Int) = [.int .i64 acts[i].1, .int .i64 acts[i].2.1, .slice (kv acts[i].2.2) 4 .ro] := elemAt_map actV acts i h
@[simp] theorem av_length (acts : List Act) : (av acts).length = acts.length := by simp [av]
theorem mod1000 (e : Int) : ∃ e' : Int, Int.tmod (IntKind.i64.wrap (Int.tmod e 1000 + 1000)) 1000 = e' ∧ 0 ≤ e' ∧ e' < 1000 := by
  have h1 := Int.lt_tmod_of_pos e (show (0 : Int) < 1000 by omega)
  have h2 := Int.tmod_lt_of_pos e (show (0 : Int) < 1000 by omega)
  rw [wrap_i64 (by omega) (by omega)]
  exact ⟨_, rfl, Int.tmod_nonneg _ (by omega), Int.tmod_lt_of_pos _ (by omega)⟩
theorem count_keys (k : Key) (ks : List Key) (j : Nat) (h : j < ks.length) : (ks.take (j + 1)).count k = (ks.take j).count k + if ks[j] = k then 1 else 0 := by
  rw [List.take_succ_eq_append_getElem h, List.count_append]
  congr 1
  by_cases hk : ks[j] = k
  · simp [hk]
  · have : ¬ k = ks[j] := fun e => hk e.symm
    simp [hk]

theorem count_one {k : Key} : ∀ {l : List Key}, l.Nodup → k ∈ l → l.count k = 1
  | x :: l, hn, hm => by
    rw [List.nodup_cons] at hn
    rw [List.count_cons]
    by_cases h : x = k
    · subst h
      rw [List.count_eq_zero.2 hn.1]
      simp
    · have hm' : k ∈ l := by
        rcases List.mem_cons.1 hm with e | e
        · exact (h e.symm).elim
        · exact e
      rw [count_one hn.2 hm']
      have : (x == k) = false := by simp only [beq_eq_false_iff_ne]; exact h
      simp [this]
theorem waits_l (k : Key) (e : Int) (acts : List Act) :
    ACall Try.prog 4 [keyV k, .int .i64 e, .slice (av acts) 3 .ro] Sto.empty fun r _ => r = .bool true := by
  refine waits_i k e acts _ (.of [awakeE, newE, retireE, takeE, backE, lenE, epochE] rfl ⟨awake_ok, new_ok, retire_ok, take_ok, back_ok, len_ok, epoch_ok, trivial⟩) ?_
  simp only [hold_eq, av_length]
  refine brV_by (fun _ => trivial) (fun h60 => gb_by (by simp only [isNew, hold_eq, decide_eq_true_eq]) ?_)
  have h60 : acts.length ≤ 60 := by simp at h60; omega
  obtain ⟨e', hE, he0, he1⟩ := mod1000 e
  rw [hE]
  refine loopV_intro (α := Nat × Nat × List Key × List (Key × Int)) (fun x => waitsL_S k e' acts x.1 x.2.1 x.2.2.1 x.2.2.2) (fun x => x.1 ≤ acts.length ∧ LInv x.2.2.1 x.2.2.2 ∧ x.2.2.1.length ≤ 10 * x.1) (fun x => acts.length - x.1) ?_ (0, 0, [], []) ⟨Nat.zero_le _, LInv.nil, Nat.le_refl _⟩
  rintro ⟨i, N, row, m⟩ ⟨hi, hI, hr⟩ L hL
  simp only [] at hi hI hr
  refine Eq.mpr (waitsL_r k e' acts i N row m L _) ?_
  simp only [hold_eq, av_length]
  refine brV_by (fun h => ?_) (fun h => ?_)
  · have hlt : i < acts.length := by simpa using h
    rw [elemAt_av acts i hlt]
    generalize acts[i] = a
    obtain ⟨kd, n, ks⟩ := a
    obtain ⟨n', hN, hn0, hn1⟩ := mod1000 n
    simp only [List.drop_succ_cons, List.drop_zero, List.getD_cons_zero, AVal.elems, AVal.intOf, map_keyOf, valOf_mv, kv_length, kv_is, i64_succ hlt (by omega), hN]
    refine gb_by (dt (by omega)) (gb_by rfl (brV_by (fun h => rfl) (fun h => ?_)))
    have hks : ks.length ≤ 10 := by simp at h; omega
    refine gb_by (dt (by omega)) (gb_by rfl (gb_by (dt (by omega)) (gb_by rfl ?_)))
    intro y hy
    have h1 := LInv.retN n' ks (x := (N, row, m)) hI
    rw [← hy] at h1
    have := hL (i + 1, y) ⟨hlt, h1.1, by have := h1.2; simp only [] at this ⊢; omega⟩ (by simp only []; omega)
    exact lim_gb rfl (by simp; omega) this
  · have hge : ¬ i < acts.length := by simpa using h
    refine leaveTo (toCut (Eq.mpr (waitsM_r k e' N row m _) ?_))
    simp only [hold_eq, map_keyOf, valOf_mv, kv_length]
    intro gone hgone left hleft m1 hm1
    have hgone : gone = row.filter fun x => [k].contains x := hgone
    have hleft : left = row.filter fun x => !([k].contains x) := hleft
    have hI1 := hI.out fun x => [k].contains x
    rw [← hgone, ← hleft, ← hm1] at hI1
    have hr1 : left.length ≤ 600 := by rw [hleft]; exact Nat.le_trans (List.length_filter_le _ _) (by omega)
    have hk1 : epochOf m1 k = none := by
      rw [hm1, epochOf_delAll _ hI.keysN]
      split
      · rfl
      · rename_i hng
        cases he : epochOf m k with
        | none => rfl
        | some v =>
          have : k ∈ row := (hI.ofSome k).2 (by rw [he]; rfl)
          exact (hng (by rw [hgone, List.mem_filter]; exact ⟨this, by simp⟩)).elim
    refine lim_gb2 rfl rfl (by simp; omega) ?_
    intro y hy
    have hy : y = retStep e' (N + 2, left, m1) k := hy
    simp only [retStep, hk1] at hy
    subst hy
    refine lim_gb2 rfl rfl (by simp; omega) ?_
    have hI2 := hI1.put (e := e') hk1
    have hk2 : epochOf (putM k e' m1) k = some e' := by rw [epochOf_putM, if_pos rfl]
    clear hL
    refine loopV_intro (α := Nat × Nat × List Key × List (Key × Int)) (fun x => waitsA_S k e' (x.2.2.1.length : Int) x.1 x.2.1 x.2.2.1 x.2.2.2) (fun x => (x.1 : Int) ≤ e' + 1 ∧ LInv x.2.2.1 x.2.2.2 ∧ epochOf x.2.2.2 k = some e' ∧ x.2.2.1.length ≤ 601) (fun x => (e' + 1).toNat - x.1) ?_ (0, N + 2, left ++ [k], putM k e' m1) ⟨by simp only []; omega, hI2, hk2, by simp; omega⟩
    rintro ⟨i, N, row, m⟩ ⟨hi, hI, hk, hr⟩ L hL
    simp only [] at hi hI hk hr
    refine Eq.mpr (waitsA_r k e' _ i N row m L _) ?_
    simp only [hold_eq, map_keyOf, valOf_mv, kv_length]
    refine brV_by (fun h => ?_) (fun h => ?_)
    · have hle : (i : Int) ≤ e' := by simpa using h
      intro gone hgone left hleft m1 hm1
      have hI1 := hI.out (below m i)
      rw [← hgone, ← hleft, ← hm1] at hI1
      have hlen := filter_split (below m i) row
      rw [← hgone, ← hleft] at hlen
      have hkg : k ∉ gone := by
        rw [hgone, List.mem_filter]
        rintro ⟨_, h2⟩
        simp [below, hk] at h2
        omega
      have hk1 : epochOf m1 k = some e' := by rw [hm1, epochOf_delAll _ hI.keysN, if_neg hkg, hk]
      have hn := hL (i + 1, N + 2, left, m1) ⟨by simp only []; omega, hI1, hk1, by simp only []; omega⟩ (by simp only []; omega)
      simp only [waitsA_S] at hn
      refine lim_gb rfl (by simp; omega) ?_
      rw [show IntKind.i64.wrap ((row.length : Int) - (gone.length : Int)) = (left.length : Int) from by rw [wrap_i64 (by omega) (by omega)]; omega]
      refine loopV_intro (α := Nat) (fun j => waitsB_S k e' (left.length : Int) i (N + 2) left m1 gone j) (fun j => j ≤ gone.length) (fun j => gone.length - j) ?_ 0 (Nat.zero_le _)
      intro j hj L' hL'
      refine Eq.mpr (waitsB_r k e' _ i (N + 2) left m1 gone j L' _) ?_
      simp only [hold_eq, kv_length]
      refine brV_by (fun h => ?_) (fun h => ?_)
      · have hlt : j < gone.length := by simpa using h
        rw [elemAt_kv gone j hlt]
        simp only [keyC, List.getD_cons_zero, List.getD_cons_succ, AVal.intOf, AVal.strOf, i64_succ hlt (show gone.length ≤ 140737488351232 by omega), key_beq]
        refine gb_by (dt (by omega)) (gb_by rfl (brV_by (fun h => ?_) (fun h => hL' (j + 1) hlt (by omega))))
        have : gone[j] = k := by simpa using h
        exact (hkg (this ▸ List.getElem_mem hlt)).elim
      · refine leaveK (inBlock (toCut ?_))
        refine Eq.mpr (waitsS_r k e' _ i (N + 2) left m1 _) ?_
        rw [show IntKind.i64.wrap ((i : Int) + 1) = ((i + 1 : Nat) : Int) from by rw [wrap_i64 (by omega) (by omega)]; rfl]
        exact hn
    · have hie : (i : Int) = e' + 1 := by simp at h; omega
      clear hL
      refine leaveTo (toCut (Eq.mpr (waitsC_r k e' _ N row m _) ?_))
      simp only [hold_eq, map_keyOf, valOf_mv, kv_length]
      intro y hy
      have hy : y = some e' := by rw [hy]; exact hk
      subst hy
      refine gb_by (isMv_mv m) ?_
      have hw : IntKind.i64.wrap (e' + 1) = e' + 1 := wrap_i64 (by omega) (by omega)
      simp only [Option.isSome_some, Option.getD_some, Bool.not_true, bne_self_eq_false, brV_ff, brV_ft, hw]
      intro gone hgone left hleft m1 hm1
      have hI1 := hI.out (below m (e' + 1))
      rw [← hgone, ← hleft, ← hm1] at hI1
      have hkr : k ∈ row := (hI.ofSome k).2 (by rw [hk]; rfl)
      have hkg : k ∈ gone := by rw [hgone, List.mem_filter]; exact ⟨hkr, by simp [below, hk]; omega⟩
      have hgl : gone.length ≤ 601 := by rw [hgone]; exact Nat.le_trans (List.length_filter_le _ _) hr
      have hcg : gone.count k = 1 := by rw [hgone] at hkg ⊢; exact count_one (hI.rowN.filter _) hkg
      have hk1 : epochOf m1 k = none := by rw [hm1, epochOf_delAll _ hI.keysN, if_pos hkg]
      refine lim_gb rfl (by simp; omega) ?_
      refine loopV_intro (α := Nat) (fun j => waitsD_S k ((gone.take j).count k) (N + 2) left m1 gone j) (fun j => j ≤ gone.length) (fun j => gone.length - j) ?_ 0 (Nat.zero_le _)
      intro j hj L' hL'
      refine Eq.mpr (waitsD_r k _ (N + 2) left m1 gone j L' _) ?_
      simp only [hold_eq, kv_length]
      refine brV_by (fun h => ?_) (fun h => ?_)
      · have hlt : j < gone.length := by simpa using h
        have hn := hL' (j + 1) hlt (by omega)
        have hcj : (gone.take j).count k ≤ 601 := Nat.le_trans (List.count_le_length) (by simp; omega)
        rw [elemAt_kv gone j hlt]
        simp only [waitsD_S] at hn
        rw [count_keys k gone j hlt] at hn
        simp only [keyC, List.getD_cons_zero, List.getD_cons_succ, AVal.intOf, AVal.strOf, i64_succ hlt (show gone.length ≤ 140737488351232 by omega), key_beq, show IntKind.i64.wrap (((gone.take j).count k : Nat) + 1 : Int) = (((gone.take j).count k + 1 : Nat) : Int) from by rw [wrap_i64 (by omega) (by omega)]; rfl]
        refine gb_by (dt (by omega)) (gb_by rfl (brV_by (fun h => ?_) (fun h => ?_)))
        · have : gone[j] = k := by simpa using h
          rw [if_pos this] at hn
          exact hn
        · have : ¬ gone[j] = k := by simpa using h
          rw [if_neg this] at hn
          exact hn
      · have hge : gone.take j = gone := List.take_of_length_le (by simp at h; omega)
        rw [hge, hcg]
        refine leaveTo (toCut (Eq.mpr (waitsE_r k 1 (N + 2) left m1 _) ?_))
        simp only [hold_eq, map_keyOf, valOf_mv, kv_length]
        intro y hy
        have hy : y = none := by rw [hy]; exact hk1
        subst hy
        refine gb_by (isMv_mv m1) ?_
        simp
end Go.Proofs.Ytakidnohmfebmaa
