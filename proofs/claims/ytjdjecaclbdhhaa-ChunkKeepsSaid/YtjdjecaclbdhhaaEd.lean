/-
  Seat 10 (chunk): the law ChunkKeeps over abstract values.
-/
import Derived.Test.YtjdjecaclbdhhaaEb
import Derived.Test.YtjdjecaclbdhhaaCz
set_option linter.unusedVariables false
set_option linter.unusedSimpArgs false
set_option maxRecDepth 20000
set_option maxHeartbeats 2000000
namespace Go.Proofs.Ytjdjecaclbdhhaa
open Go.AL

theorem take_one (m : List Ck) (j : Nat) (h : j < m.length) : List.take (j + 1 - j) (List.drop j (ckv m)) = ckv [m[j]] := by
  have h' : j < (ckv m).length := by rw [ckv_length]; exact h
  rw [show j + 1 - j = 1 by omega, List.drop_eq_getElem_cons h']
  simp [ckv]
theorem bool_iff {a b : Bool} (h : a = true ↔ b = true) : a = b := by
  cases a <;> cases b <;> simp_all
theorem keepsM_go (p p' : List Pt) (k : Int) (c : List Ck) (e : Int) (hp : (mkC p).length ≤ 2000) (hp' : (mkC p').length ≤ 2000) (hc : c.length ≤ 2) (hG' : GoodC p') (hkeep : ∀ d ∈ mkC p, d.1 ∉ nosC c → d ∈ mkC p') (i : Nat) (hi : i < (mkC p).length)
    (L : St → Prop) (hL : L (keepsM_S (mkC p) k c e (mkC p') (i + 1))) (K : Exit → St → Prop) : vc Try.prog cKeeps keepsM_C (thenK (fun s => L (St.norm [(5, 1004)] [5, 9, 10, 11, 12, 13] [] s)) K) (keepsM_S (mkC p) k c e (mkC p') i) := by
  have hn : (ckv (mkC p)).length = (mkC p).length := ckv_length _
  have hnc : (ckv c).length = c.length := ckv_length _
  have hnm : (ckv (mkC p')).length = (mkC p').length := ckv_length _
  refine Eq.mpr (keepsM_r (mkC p) k c e (mkC p') i L K) ?_
  simp only [hold_eq]
  refine brV_by (fun _ => ?_) (fun h => by have := of_decide_eq_false h; omega)
  refine loopV_intro (α := Bool × Nat) (fun s => keepsN_S (mkC p) k c e (mkC p') i s.1 s.2) (fun s => s.2 ≤ c.length ∧ (s.1 = true ↔ (mkC p)[i].1 ∈ nosC (c.take s.2))) (fun s => c.length - s.2) ?_ (false, 0) ⟨Nat.zero_le _, by simp [nosC]⟩
  rintro ⟨g, j⟩ ⟨k1, k2⟩ M hM
  simp only at k1 k2
  refine Eq.mpr (keepsN_r (mkC p) k c e (mkC p') i g j M _) ?_
  simp only [hold_eq]
  refine brV_by (fun h => ?_) (fun h => ?_)
  · have hj : j < c.length := by have := of_decide_eq_true h; omega
    have hno := nosC_take1 c j hj
    have nxt : ∀ g' : Bool, (g' = true ↔ (mkC p)[i].1 ∈ nosC (c.take (j + 1))) → ∀ K : Exit → St → Prop, vc Try.prog cKeeps keepsK_C (thenK (fun s => M (St.norm [(5, 1004)] [5, 9, 10, 11, 12, 13, 14, 15] [] s)) K) (keepsK_S (mkC p) k c e (mkC p') i g' j) := by
      intro g' q K
      refine Eq.mpr (keepsK_r (mkC p) k c e (mkC p') i g' j _) ?_
      rw [i64_succ hj (by omega)]
      exact hM (g', j + 1) ⟨hj, q⟩ (by simp only; omega)
    refine brV_by' (fun hg => ?_) (fun hg => ?_)
    · rw [elemAt_ckv c j hj, elemAt_ckv _ i hi]
      refine gb_by (dt (by omega)) (gb_by rfl (gb_by (dt (by omega)) (gb_by rfl (toCut (nxt _ ?_ _)))))
      have hg2 : ¬ (mkC p)[i].1 ∈ nosC (c.take j) := fun hh => by rw [k2.2 hh] at hg; cases hg
      show ((c[j].1 == (mkC p)[i].1) = true) ↔ _
      rw [hno, List.mem_append, List.mem_singleton, beq_iff_eq]
      exact ⟨fun hh => .inr hh.symm, fun hh => hh.elim (fun h => (hg2 h).elim) (fun h => h.symm)⟩
    · refine toCut (nxt true ?_ _)
      rw [hno, List.mem_append]
      exact ⟨fun _ => .inl (k2.1 hg), fun _ => rfl⟩
  · have hj : j = c.length := by have := of_decide_eq_false h; omega
    rw [hj, List.take_length] at k2
    refine leaveTo (toCut (Eq.mpr (keepsD_r (mkC p) k c e (mkC p') i g _) ?_))
    clear hM
    refine loopV_intro (α := Bool × Nat) (fun s => keepsO_S (mkC p) k c e (mkC p') i g s.1 s.2) (fun s => s.2 ≤ (mkC p').length ∧ (s.1 = true ↔ (mkC p)[i] ∈ (mkC p').take s.2)) (fun s => (mkC p').length - s.2) ?_ (false, 0) ⟨Nat.zero_le _, by simp⟩
    rintro ⟨u, n⟩ ⟨m1, m2⟩ M hM
    simp only at m1 m2
    refine Eq.mpr (keepsO_r (mkC p) k c e (mkC p') i g u n M _) ?_
    simp only [hold_eq]
    refine brV_by (fun h => ?_) (fun h => ?_)
    · have hn2 : n < (mkC p').length := by have := of_decide_eq_true h; omega
      have nxt : ∀ u' : Bool, (u' = true ↔ (mkC p)[i] ∈ (mkC p').take (n + 1)) → ∀ K : Exit → St → Prop, vc Try.prog cKeeps keepsP_C (thenK (fun s => M (St.norm [(5, 1004)] [5, 9, 10, 11, 12, 13, 14, 16, 17] [] s)) K) (keepsP_S (mkC p) k c e (mkC p') i g u' n) := by
        intro u' q K
        refine Eq.mpr (keepsP_r (mkC p) k c e (mkC p') i g u' n _) ?_
        rw [i64_succ hn2 (by omega)]
        exact hM (u', n + 1) ⟨hn2, q⟩ (by simp only; omega)
      have hts := List.take_succ_eq_append_getElem hn2
      refine brV_by' (fun hu => ?_) (fun hu => ?_)
      · have w1 := i64_succ hn2 (by omega)
        have w2 := i64_succ hi (by omega)
        rw [w1, w2]
        simp only [Int.toNat_natCast, take_one _ _ hn2, take_one _ _ hi, map_ckOf]
        have hmm := mk_mem hG' _ (List.getElem_mem hn2)
        refine gb_by (dt (by omega)) (gb_by (dt (by omega)) (gb_by ?_ (toCut (nxt _ ?_ _))))
        · have q := conds (l := [(mkC p')[n]]) (by simp) (fun d hd => by rw [List.mem_singleton] at hd; rw [hd]; omega)
          rw [Bool.and_eq_true] at q
          exact and_tt (ckv_is _) (and_tt (ckv_is _) q.2)
        · have hu2 : ¬ (mkC p)[i] ∈ (mkC p').take n := fun hh => by rw [m2.2 hh] at hu; cases hu
          rw [hts, List.mem_append, List.mem_singleton, beq_iff_eq]
          constructor
          · intro hh; exact .inr (by simpa using hh.symm)
          · rintro (hh | hh)
            · exact (hu2 hh).elim
            · rw [hh]
      · refine toCut (nxt true ?_ _)
        rw [hts, List.mem_append]
        exact ⟨fun _ => .inl (m2.1 hu), fun _ => rfl⟩
    · have hn2 : n = (mkC p').length := by have := of_decide_eq_false h; omega
      rw [hn2, List.take_length] at m2
      refine leaveTo (toCut (Eq.mpr (keepsE_r (mkC p) k c e (mkC p') i g u _) ?_))
      have fin : ∀ K : Exit → St → Prop, vc Try.prog cKeeps keepsJ_C (thenK (fun s => L (St.norm [(5, 1004)] [5, 9, 10, 11, 12, 13] [] s)) K) (keepsJ_S (mkC p) k c e (mkC p') i) := by
        intro K
        refine Eq.mpr (keepsJ_r (mkC p) k c e (mkC p') i _) ?_
        rw [i64_succ hi (by omega)]
        exact hL
      refine brV_by (fun hg => brV_by (fun hu => ?_) (fun hu => inBlock (toCut (fin _)))) (fun hg => inBlock (toCut (fin _)))
      exfalso
      have hg : g = false := by simpa using hg
      have hu : u = false := by simpa using hu
      have h1 : (mkC p)[i].1 ∉ nosC c := fun hh => by rw [k2.2 hh] at hg; cases hg
      have h2 := hkeep _ (List.getElem_mem hi) h1
      rw [m2.2 h2] at hu; cases hu
theorem keepsB_go (p : List Pt) (hG : GoodC p) (hl : (idsP p).length ≤ 40) (k : Int) (h0 : 0 ≤ k) (h1 : k < 1000) :
    vc Try.prog cKeeps keepsB_C (endK Try.prog Try.f7.results.toList fun v _ => v = .bool true) (keepsB_S (mkC p) k) := by
  refine Eq.mpr (keepsB_r (mkC p) k _) ?_
  have hC := condsP hG (by omega)
  simp only [hold_eq, map_ckOf, map_intOf_iv]
  intro y hy
  refine gb_by hC ?_
  by_cases hm : k ∈ idsP p
  · have e := insK_twice hG h0 (by omega) hm
    rw [e] at hy
    refine brV_by (fun _ => ?_) (fun h => by rw [hy] at h; cases h)
    intro z hz
    have hzl : (iv z).length = (idsP p).length := by rw [iv_length, hz, idsC_mkC]
    refine gb_by hC (gb_by (and_tt (iv_isI64 _) (lenOk_mk (by omega))) ?_)
    have : z.contains k = true := by rw [hz, idsC_mkC]; exact List.contains_iff_mem.2 hm
    rw [this]
  · obtain ⟨ch, p', e, ⟨_, c2, _⟩, k2, k3, k4, k5⟩ := insK_apply hG h0 (by omega) hm
    have hK := condsK (mkC p) k
    rw [e] at hy hK
    subst hy
    have hids : (idsP p').length = (idsP p).length + 1 := by rw [k4, insS_length]
    have hC' := condsP k3 (by omega)
    refine brV_by (fun h => by cases h) (fun _ => toCut ?_)
    refine Eq.mpr (keepsC_r (mkC p) k ch 0 _) ?_
    simp only [map_ckOf]
    intro m hmm
    rw [k2] at hmm
    subst hmm
    refine gb_by (condsA hC hK) ?_
    have s1 := hG.short
    have s2 := k3.short
    have l1 := mkC_length p
    have l2 := mkC_length p'
    refine loopV_intro (α := Nat) (fun i => keepsM_S (mkC p) k ch 0 (mkC p') i) (fun i => i ≤ (mkC p).length) (fun i => (mkC p).length - i) ?_ 0 (Nat.zero_le _)
    intro i hi L hL
    rcases Nat.lt_or_ge i (mkC p).length with hlt | hge
    · exact keepsM_go p p' k ch 0 (by omega) (by omega) c2 k3 k5 i hlt L (hL (i + 1) hlt (by omega)) _
    · have hn : (ckv (mkC p)).length = (mkC p).length := ckv_length _
      refine Eq.mpr (keepsM_r (mkC p) k ch 0 (mkC p') i L _) ?_
      simp only [hold_eq]
      refine brV_by (fun h => by have := of_decide_eq_true h; omega) (fun _ => leaveTo (toCut ?_))
      refine Eq.mpr (keepsF_r (mkC p) k 0 (mkC p') _) ?_
      simp only [hold_eq, map_ckOf, map_intOf_iv]
      have hkm : k ∈ idsP p' := by rw [k4]; exact (mem_insS _ _ _).2 (.inl rfl)
      obtain ⟨d, q, e2, _, n2, n3, n4⟩ := remK_apply k3 hkm
      have hR := condsR (mkC p') k
      have hidq : idsP q = idsP p := by rw [n4, k4, remS_insS hm]
      have hCq := condsP n3 (by rw [hidq]; omega)
      intro y hy
      rw [e2] at hy hR
      subst hy
      refine gb_by hC' (brV_by (fun _ => brV_by (fun _ => ?_) (fun h => by cases h)) (fun h => by cases h))
      intro z hz
      simp only at hz
      rw [n2] at hz
      subst hz
      refine gb_by (condsA hC' hR) ?_
      intro u hu
      refine gb_by hCq ?_
      intro v hv
      have huv : u = v := by rw [hu, hv, idsC_mkC, idsC_mkC, hidq]
      have hul : (iv u).length = (idsP p).length := by rw [iv_length, hu, idsC_mkC, hidq]
      refine gb_by hC (gb_by (and_tt (iv_isI64 _) (and_tt (iv_isI64 _) (lenOk_mk (by omega)))) ?_)
      rw [huv]
      simp
theorem keeps_law (xs : List AVal) (h : FitsL [.slice (.int .i64) 1 8, .int .i64] xs) :
    ACall Try.prog 7 xs Sto.empty fun v _ => v = .bool true := by
  obtain ⟨a1, t1, rfl, f1, a2, t2, rfl, f2, rfl⟩ := h
  obtain ⟨es, rfl, hl, _⟩ := fits_iv f1
  obtain ⟨x, rfl, _, _⟩ := f2
  refine keeps_i es x _ (.of [awakeE, insertE, applyE, hasE, idsE, sameE, removeE, intsE] rfl ⟨awake_ok, insert_ok, apply_ok, has_ok, ids_ok, same_ok, remove_ok, ints_ok, trivial⟩) ?_
  have hn : (iv es).length = es.length := iv_length es
  simp only [hold_eq]
  refine brV_by' (fun _ => ?_) (fun h => by cases h)
  refine brV_by (fun _ => trivial) (fun h40 => ?_)
  have h40 : es.length ≤ 40 := by have := of_decide_eq_false h40; omega
  refine loopV_intro (α := List Pt × Nat) (fun s => keepsL_S es x (mkC s.1) s.2) (fun s => s.2 ≤ es.length ∧ GoodC s.1 ∧ (idsP s.1).length ≤ s.2) (fun s => es.length - s.2) ?_ ([], 0) ⟨Nat.zero_le _, good_nil, by simp [idsP]⟩
  rintro ⟨p, i⟩ ⟨g1, g2, g3⟩ L hL
  simp only at g1 g2 g3
  refine Eq.mpr (keepsL_r es x (mkC p) i L _) ?_
  simp only [hold_eq, map_ckOf]
  refine brV_by (fun h => ?_) (fun h => ?_)
  · have hlt : i < es.length := by have := of_decide_eq_true h; omega
    rw [elemAt_iv es i hlt]
    have hC := condsP g2 (by omega)
    have e0 : Int.tmod (IntKind.i64.wrap (Int.tmod (AVal.intOf (List.getD [AVal.int .i64 es[i]] 0 .undef)) 100 + 100)) 100 = mdN 100 (es.getD i 0) := by rw [getD_get hlt]; rfl
    rw [e0]
    generalize hid : mdN 100 (es.getD i 0) = id at *
    have hr : 0 ≤ id ∧ id < 100 := by rw [← hid]; exact mdN_range (by omega) (by omega)
    have nxt : ∀ p' : List Pt, GoodC p' → (idsP p').length ≤ i + 1 → ∀ K : Exit → St → Prop, vc Try.prog cKeeps keepsI_C (thenK (fun s => L (St.norm [(5, 1004)] [0, 1, 5, 6] [] s)) K) (keepsI_S es x (mkC p') i) := by
      intro p' q1 q2 K
      refine Eq.mpr (keepsI_r es x (mkC p') i _) ?_
      rw [i64_succ hlt (by omega)]
      exact hL (p', i + 1) ⟨hlt, q1, q2⟩ (by simp only; omega)
    refine gb_by (dt (by omega)) (gb_by rfl ?_)
    intro y hy
    refine gb_by hC ?_
    by_cases hm : id ∈ idsP p
    · have e := insK_twice g2 hr.1 (by omega) hm
      rw [e] at hy
      refine brV_by (fun h => by rw [hy] at h; cases h) (fun _ => toCut ?_)
      exact nxt p g2 (by omega) _
    · obtain ⟨ch, p', e, _, k2, k3, k4, _⟩ := insK_apply g2 hr.1 (by omega) hm
      have hK := condsK (mkC p) id
      rw [← hy] at hK
      refine brV_by (fun _ => ?_) (fun h => by rw [hy, e] at h; cases h)
      intro z hz
      refine gb_by (condsA hC hK) (toCut ?_)
      have hz2 : z = mkC p' := by rw [hz, hy, e]; exact k2
      rw [hz2]
      exact nxt p' k3 (by rw [k4, insS_length]; omega) _
  · refine leaveTo (toCut (Eq.mpr (keepsA_r x (mkC p) _) ?_))
    have hr := mdN_range (n := 100) (x := x) (by omega) (by omega)
    have e0 : Int.tmod (IntKind.i64.wrap (Int.tmod x 100 + 100)) 100 = mdN 100 x := rfl
    rw [e0]
    refine brV_by (fun _ => toCut (keepsB_go p g2 (by omega) _ hr.1 (by omega))) (fun _ => ?_)
    rw [wrap_i64 (n := 100 + mdN 100 x) (by omega) (by omega)]
    exact toCut (keepsB_go p g2 (by omega) _ (by omega) (by omega))
end Go.Proofs.Ytjdjecaclbdhhaa
