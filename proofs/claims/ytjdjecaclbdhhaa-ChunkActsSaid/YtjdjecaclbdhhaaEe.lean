/-
  Seat 10 (chunk): the law ChunkActs over abstract values.
-/
import Derived.Test.YtjdjecaclbdhhaaEb
import Derived.Test.YtjdjecaclbdhhaaDa
set_option linter.unusedVariables false
set_option linter.unusedSimpArgs false
set_option maxRecDepth 20000
set_option maxHeartbeats 2000000
namespace Go.Proofs.Ytjdjecaclbdhhaa
open Go.AL

/-- The next ids, as the law gathers them. -/
def nxF (x : Int) : Bool → List Int → List Int
  | d, [] => if d then [] else [x]
  | d, v :: r => (if x < v ∧ d = false then [x] else []) ++ ((if v = x then [] else [v]) ++ nxF x (if x < v then true else d) r)
theorem nxF_true (x : Int) : ∀ l : List Int, nxF x true l = remS l x
  | [] => rfl
  | v :: r => by
    have e : (if x < v then true else true) = true := by split <;> rfl
    rw [nxF, if_neg (by simp), e, nxF_true x r]
    unfold remS
    by_cases h : v = x
    · simp [h]
    · simp [h]
theorem nxF_false (x : Int) : ∀ {l : List Int}, l.Pairwise (· < ·) → x ∉ l → nxF x false l = insS l x
  | [], _, _ => rfl
  | v :: r, hp, hx => by
    have hxv : v ≠ x := fun e => hx (by simp [e])
    have hxr : x ∉ r := fun h => hx (List.mem_cons_of_mem _ h)
    rw [insS_cons v r x hp hx, nxF, if_neg hxv]
    by_cases h : v < x
    · rw [if_pos h, if_neg (by omega), if_neg (by omega), nxF_false x (List.pairwise_cons.1 hp).2 hxr]; rfl
    · rw [if_neg h, if_pos ⟨by omega, rfl⟩, if_pos (by omega), nxF_true, remS_none hxr]; rfl
theorem actsM_all (es : List Int) (ch : List Ck) (ids : List Int) (i : Nat) (x : Int) (d0 : Bool) (σ : Sto) (hl : ids.length ≤ 1000) (K : Exit → St → Prop)
    (hE : ∀ nx perm τ, nx = nxF x d0 ids → τ.own perm = some nx.length → vc Try.prog cActs actsE_C K (actsE_S es ch i nx perm τ)) :
    loopV (fun s => St.norm [(3, 1004), (4, 1001), (10, 1)] [0, 3, 4, 5, 6, 10, 11, 12] [] s) (vc Try.prog cActs actsM_C) (blockK 2 (thenK (fun s => cutV (vc Try.prog cActs actsD_C K) (St.norm [(3, 1004), (4, 1001), (10, 1)] [0, 3, 5, 6, 10, 11] [] s)) K)) (actsM_S es ch ids i x [] σ.nown d0 0 (σ.pushOwn 0)) := by
  have hn : (iv ids).length = ids.length := iv_length ids
  refine loopV_intro (α := List Int × Nat × Bool × Nat × Sto) (fun s => actsM_S es ch ids i x s.1 s.2.1 s.2.2.1 s.2.2.2.1 s.2.2.2.2)
    (fun s => s.2.2.2.1 ≤ ids.length ∧ s.1.length ≤ s.2.2.2.1 + 1 ∧ (s.2.2.1 = false → s.1.length ≤ s.2.2.2.1) ∧ s.1 ++ nxF x s.2.2.1 (ids.drop s.2.2.2.1) = nxF x d0 ids ∧ s.2.2.2.2.own s.2.1 = some s.1.length) (fun s => ids.length - s.2.2.2.1) ?_ ([], _, d0, 0, _) ⟨Nat.zero_le _, by simp, by simp, rfl, own_push σ 0⟩
  rintro ⟨nx, p, d, k, τ⟩ ⟨g1, g2, g3, g4, g5⟩ L hL
  simp only at g1 g2 g3 g4 g5
  refine Eq.mpr (actsM_r es ch ids i x nx p d k τ L _) ?_
  have hov : ∀ o : List Int, (iv o).length = o.length := iv_length
  have hov1 := hov nx
  simp only [hold_eq]
  refine brV_by (fun h => ?_) (fun h => ?_)
  · have hlt : k < ids.length := by have := of_decide_eq_true h; omega
    have ed : ids.drop k = ids[k] :: ids.drop (k + 1) := List.drop_eq_getElem_cons hlt
    rw [ed, nxF] at g4
    rw [elemAt_iv ids k hlt]
    have nxt : ∀ (o : List Int) (d' : Bool) (ρ : Sto), o.length ≤ k + 2 → (d' = false → o.length ≤ k + 1) → o ++ nxF x d' (ids.drop (k + 1)) = nxF x d0 ids → ρ.own p = some o.length → ∀ K : Exit → St → Prop, vc Try.prog cActs actsJ_C (thenK (fun s => L (St.norm [(3, 1004), (4, 1001), (10, 1)] [0, 3, 4, 5, 6, 10, 11, 12] [] s)) K) (actsJ_S es ch ids i x o p d' k ρ) := by
      intro o d' ρ q1 q2 q3 q4 K
      refine Eq.mpr (actsJ_r es ch ids i x o p d' k ρ _) ?_
      rw [i64_succ hlt (by omega)]
      exact hL (o, p, d', k + 1, ρ) ⟨hlt, q1, q2, q3, q4⟩ (by simp only; omega)
    have stp : ∀ (o : List Int) (d' : Bool) (ρ : Sto), o.length ≤ k + 1 → (d' = false → o.length ≤ k) → o ++ ((if ids[k] = x then [] else [ids[k]]) ++ nxF x d' (ids.drop (k + 1))) = nxF x d0 ids → ρ.own p = some o.length → ∀ K : Exit → St → Prop,
        vc Try.prog cActs actsC_C (blockK 3 (thenK (fun s => cutV (vc Try.prog cActs actsJ_C (thenK (fun s => L (St.norm [(3, 1004), (4, 1001), (10, 1)] [0, 3, 4, 5, 6, 10, 11, 12] [] s)) K)) (St.norm [(3, 1004), (4, 1001), (10, 1)] [0, 3, 4, 5, 6, 10, 11, 12] [] s)) (thenK (fun s => L (St.norm [(3, 1004), (4, 1001), (10, 1)] [0, 3, 4, 5, 6, 10, 11, 12] [] s)) K))) (actsC_S es ch ids i x o p d' k ρ) := by
      intro o d' ρ q1 q2 q3 q4 K
      refine Eq.mpr (actsC_r es ch ids i x o p d' k ρ _) ?_
      have hov2 := hov o
      rw [elemAt_iv ids k hlt]
      simp only [hold_eq]
      refine gb_by (dt (by omega)) (gb_by rfl (brV_by (fun hx => ?_) (fun hx => ?_)))
      · have hx : ids[k] ≠ x := by
          have hx : (ids[k] != x) = true := hx
          simpa using hx
        rw [if_neg hx] at q3
        refine gb_by (dt (by omega)) (gb_by rfl (gb_by (dt ⟨dt ⟨trivial, by rw [q4, hov2], by omega, by omega⟩, trivial⟩) (inBlock (toCut ?_))))
        rw [iv_oneG]
        refine nxt (o ++ [ids[k]]) d' (ρ.setOwn p ((iv o).length + 1)) (by simp; omega) (fun hd => by have := q2 hd; simp; omega) (by rw [← q3]; simp) ?_ K
        rw [own_set, hov2]; simp
      · have hx : ids[k] = x := by
          have hx : (ids[k] != x) = false := hx
          simpa using hx
        rw [if_pos hx] at q3
        exact inBlock (toCut (nxt o d' ρ (by omega) (fun hd => by have := q2 hd; omega) q3 q4 K))
    refine gb_by (dt (by omega)) (gb_by rfl (brV_by (fun hx => ?_) (fun hx => ?_)))
    · have hx : x < ids[k] := of_decide_eq_true hx
      rw [if_pos hx] at g4
      refine brV_by (fun hd => ?_) (fun hd => ?_)
      · have hd : d = false := by simpa using hd
        rw [if_pos ⟨hx, hd⟩] at g4
        have := g3 hd
        refine gb_by (dt ⟨dt ⟨trivial, by rw [g5, hov1], by omega, by omega⟩, trivial⟩) (toCut ?_)
        rw [iv_one]
        exact stp (nx ++ [x]) true (τ.setOwn p ((iv nx).length + 1)) (by simp; omega) (fun h => by cases h) (by rw [← g4]; simp) (by rw [own_set, hov1]; simp) _
      · have hd : d = true := by simpa using hd
        rw [if_neg (by simp [hd])] at g4
        rw [hd]
        refine toCut (stp nx true τ (by omega) (fun h => by cases h) (by rw [← g4]; simp) g5 _)
    · have hx : ¬ x < ids[k] := of_decide_eq_false hx
      rw [if_neg hx, if_neg (by simp [hx])] at g4
      exact toCut (stp nx d τ (by omega) g3 (by rw [← g4]; simp) g5 _)
  · have hk : k = ids.length := by have := of_decide_eq_false h; omega
    subst hk
    rw [List.drop_length, nxF] at g4
    refine leaveTo (toCut (Eq.mpr (actsD_r es ch i x nx p d τ _) ?_))
    refine brV_by (fun hd => ?_) (fun hd => ?_)
    · have hd : d = false := by simpa using hd
      rw [if_neg (by simp [hd])] at g4
      refine gb_by (dt ⟨dt ⟨rfl, by rw [g5, hov1], by omega, by omega⟩, rfl⟩) (toCut ?_)
      rw [iv_one]
      exact hE (nx ++ [x]) p (τ.setOwn p ((iv nx).length + 1)) g4 (by rw [own_set, hov1]; simp)
    · have hd : d = true := by simpa using hd
      rw [if_pos hd, List.append_nil] at g4
      exact toCut (hE nx p τ g4 g5)
theorem acts_law (xs : List AVal) (h : FitsL [.slice (.int .i64) 1 8] xs) :
    ACall Try.prog 6 xs Sto.empty fun v _ => v = .bool true := by
  obtain ⟨a1, t1, rfl, f1, rfl⟩ := h
  obtain ⟨es, rfl, hl, _⟩ := fits_iv f1
  refine acts_i es _ (.of [awakeE, hasE, removeE, insertE, applyE, rightE, idsE, intsE] rfl ⟨awake_ok, has_ok, remove_ok, insert_ok, apply_ok, right_ok, ids_ok, ints_ok, trivial⟩) ?_
  have hn : (iv es).length = es.length := iv_length es
  simp only [hold_eq]
  refine brV_by' (fun _ => ?_) (fun h => by cases h)
  refine brV_by (fun _ => trivial) (fun h40 => ?_)
  have h40 : es.length ≤ 150 := by have := of_decide_eq_false h40; omega
  refine loopV_intro (α := List Pt × Nat × Sto) (fun s => actsL_S es (mkC s.1) (idsP s.1) s.2.1 s.2.2) (fun s => s.2.1 ≤ es.length ∧ GoodC s.1 ∧ (idsP s.1).length ≤ s.2.1) (fun s => es.length - s.2.1) ?_ ([], 0, _) ⟨Nat.zero_le _, good_nil, by simp [idsP]⟩
  rintro ⟨p, i, σ⟩ ⟨g1, g2, g3⟩ L hL
  simp only at g1 g2 g3
  refine Eq.mpr (actsL_r es (mkC p) (idsP p) i σ L _) ?_
  simp only [hold_eq]
  refine brV_by (fun h => ?_) (fun h => ?_)
  · have hlt : i < es.length := by have := of_decide_eq_true h; omega
    rw [elemAt_iv es i hlt]
    have hC := condsP g2 (by omega)
    have hil : (iv (idsP p)).length = (idsP p).length := iv_length _
    refine gb_by (dt (by omega)) (gb_by rfl ?_)
    intro x hx
    have hr : 0 ≤ x ∧ x < 64 := by
      have e0 : x = mdN 64 (es.getD i 0) := by rw [getD_get hlt, hx]; rfl
      rw [e0]; exact mdN_range (by omega) (by omega)
    clear hx
    refine toCut (Eq.mpr (actsA_r es (mkC p) (idsP p) i x σ _) ?_)
    simp only [hold_eq, map_intOf_iv, map_ckOf]
    -- behind the change
    have rest : ∀ (c : List Ck) (d : Bool) (p' : List Pt) (ρ : Sto), (1 ≤ c.length ∧ c.length ≤ 2) → ((ckv c).all ckIs && (lenM (ckv c).length && (ckv c).all ckM)) = true → applyK (mkC p) c = mkC p' → GoodC p' → nxF x d (idsP p) = idsP p' → (idsP p').length ≤ i + 1 → ∀ K : Exit → St → Prop,
        vc Try.prog cActs actsB_C (blockK 1 (thenK (fun s => cutV (vc Try.prog cActs actsI_C (thenK (fun s => L (St.norm [(3, 1004), (4, 1001), (10, 1)] [0, 3, 4, 5] [] s)) K)) (St.norm [(3, 1004), (4, 1001), (10, 1)] [0, 3, 4, 5] [] s)) (thenK (fun s => L (St.norm [(3, 1004), (4, 1001), (10, 1)] [0, 3, 4, 5] [] s)) K))) (actsB_S es (mkC p) (idsP p) i x d c 0 ρ) := by
      intro c d p' ρ hcl hCc hap hG' hnx hle K
      refine Eq.mpr (actsB_r es (mkC p) (idsP p) i x d c 0 ρ _) ?_
      have hcv : (ckv c).length = c.length := ckv_length c
      simp only [hold_eq, map_ckOf]
      refine brV_by' (fun _ => ?_) (fun h => by cases h)
      refine brV_by' (fun _ => ?_) (fun h => by have := of_decide_eq_true h; omega)
      refine brV_by (fun h => by have := of_decide_eq_true h; omega) (fun _ => ?_)
      intro y hy
      rw [hap] at hy
      subst hy
      refine gb_by (condsA hC hCc) ?_
      refine actsM_all es (mkC p') (idsP p) i x d ρ (by omega) _ ?_
      intro nx perm τ hnx2 hown
      rw [hnx] at hnx2
      have hC' := condsP hG' (by omega)
      refine Eq.mpr (actsE_r es (mkC p') i nx perm τ _) ?_
      simp only [hold_eq, map_ckOf, map_intOf_iv, hG'.right]
      refine gb_by hC' (brV_by' (fun _ => ?_) (fun h => by cases h))
      intro u hu
      have huv : u = nx := by rw [hu, idsC_mkC, hnx2]
      have hul : (iv u).length = (idsP p').length := by rw [iv_length, hu, idsC_mkC]
      refine gb_by hC' (gb_by (and_tt (iv_isI64 _) (and_tt (iv_isI64 _) (lenOk_mk (by omega)))) ?_)
      refine brV_by (fun h => by rw [huv] at h; simp at h) (fun _ => inBlock (toCut ?_))
      refine Eq.mpr (actsI_r es (mkC p') nx i τ _) ?_
      rw [i64_succ hlt (by omega), hnx2]
      exact hL (p', i + 1, τ) ⟨hlt, hG', hle⟩ (by simp only; omega)
    refine gb_by (and_tt (iv_isI64 _) (lenOk_mk (by omega))) (brV_by (fun hm => ?_) (fun hm => ?_))
    · have hm' : x ∈ idsP p := List.contains_iff_mem.1 hm
      obtain ⟨c, p', e, ⟨c1, c2, _⟩, k2, k3, k4⟩ := remK_apply g2 hm'
      have hR := condsR (mkC p) x
      intro y hy
      rw [e] at hy hR
      subst hy
      refine gb_by hC (toCut ?_)
      rw [hm]
      refine rest c true p' σ ⟨c1, c2⟩ hR k2 k3 (by rw [nxF_true, k4]) ?_ _
      rw [k4]
      exact Nat.le_trans (List.length_filter_le _ _) (by omega)
    · have hm' : x ∉ idsP p := fun h => by rw [List.contains_iff_mem.2 h] at hm; cases hm
      obtain ⟨c, p', e, ⟨c1, c2, _⟩, k2, k3, k4, _⟩ := insK_apply g2 hr.1 (by omega) hm'
      have hR := condsK (mkC p) x
      intro y hy
      rw [e] at hy hR
      subst hy
      refine gb_by hC (toCut ?_)
      rw [hm]
      refine rest c false p' σ ⟨c1, c2⟩ hR k2 k3 (by rw [nxF_false x g2.ris hm', k4]) ?_ _
      rw [k4, insS_length]; omega
  · exact leaveTo (toCut (Eq.mpr (actsF_r _ _) rfl))
end Go.Proofs.Ytjdjecaclbdhhaa
