/-
  Seat 10 (chunk): the law ChunkOrders over abstract values.
-/
import Derived.Test.YtjdjecaclbdhhaaEb
import Derived.Test.YtjdjecaclbdhhaaCz
set_option linter.unusedVariables false
set_option linter.unusedSimpArgs false
set_option maxRecDepth 20000
set_option maxHeartbeats 2000000
namespace Go.Proofs.Ytjdjecaclbdhhaa
open Go.AL

theorem orders_law (xs : List AVal) (h : FitsL [.slice (.int .i64) 1 8, .int .i64] xs) :
    ACall Try.prog 3 xs Sto.empty fun v _ => v = .bool true := by
  obtain ⟨a1, t1, rfl, f1, a2, t2, rfl, f2, rfl⟩ := h
  obtain ⟨es, rfl, hl, _⟩ := fits_iv f1
  obtain ⟨t, rfl, _, _⟩ := f2
  refine orders_i es t _ (.of [awakeE, insertE, applyE, rightE, idsE, intsE] rfl ⟨awake_ok, insert_ok, apply_ok, right_ok, ids_ok, ints_ok, trivial⟩) ?_
  have hn : (iv es).length = es.length := iv_length es
  simp only [hold_eq]
  refine brV_by' (fun _ => ?_) (fun h => by cases h)
  refine brV_by (fun _ => trivial) (fun h40 => ?_)
  have h40 : es.length ≤ 40 := by have := of_decide_eq_false h40; omega
  refine loopV_intro (α := List Pt × Nat) (fun s => ordersL_S es t (mkC s.1) [] s.2) (fun s => s.2 ≤ es.length ∧ GoodC s.1 ∧ (idsP s.1).length ≤ s.2 ∧ ∀ y, y ∈ idsP s.1 ↔ ∃ j, j < s.2 ∧ mdN 100 (es.getD j 0) = y) (fun s => es.length - s.2) ?_ ([], 0) ⟨Nat.zero_le _, good_nil, by simp [idsP], fun y => by simp [idsP]⟩
  rintro ⟨p, i⟩ ⟨g1, g2, g3, g4⟩ L hL
  simp only at g1 g2 g3 g4
  refine Eq.mpr (ordersL_r es t (mkC p) [] i L _) ?_
  simp only [hold_eq, map_ckOf]
  refine brV_by (fun h => ?_) (fun h => ?_)
  · have hlt : i < es.length := by have := of_decide_eq_true h; omega
    rw [elemAt_iv es i hlt]
    have hC := condsP g2 (by omega)
    have e0 : Int.tmod (IntKind.i64.wrap (Int.tmod (AVal.intOf (List.getD [AVal.int .i64 es[i]] 0 .undef)) 100 + 100)) 100 = mdN 100 (es.getD i 0) := by rw [getD_get hlt]; rfl
    rw [e0]
    generalize hid : mdN 100 (es.getD i 0) = id at *
    have hr : 0 ≤ id ∧ id < 100 := by rw [← hid]; exact mdN_range (by omega) (by omega)
    have nxt : ∀ p' : List Pt, GoodC p' → (idsP p').length ≤ i + 1 → (∀ y, y ∈ idsP p' ↔ y = id ∨ y ∈ idsP p) → ∀ K : Exit → St → Prop, vc Try.prog cOrders ordersI_C (thenK (fun s => L (St.norm [(5, 1004), (6, 1004)] [0, 1, 5, 6, 7] [] s)) K) (ordersI_S es t (mkC p') [] i) := by
      intro p' q1 q2 q3 K
      refine Eq.mpr (ordersI_r es t (mkC p') [] i _) ?_
      rw [i64_succ hlt (by omega)]
      refine hL (p', i + 1) ⟨hlt, q1, q2, fun y => ?_⟩ (by simp only; omega)
      simp only
      rw [q3, g4]
      constructor
      · rintro (h | ⟨j, h1, h2⟩)
        · exact ⟨i, by omega, by rw [hid, h]⟩
        · exact ⟨j, by omega, h2⟩
      · rintro ⟨j, h1, h2⟩
        rcases Nat.lt_or_ge j i with h9 | h9
        · exact .inr ⟨j, h9, h2⟩
        · obtain rfl : j = i := by omega
          exact .inl (by rw [← h2, hid])
    refine gb_by (dt (by omega)) (gb_by rfl ?_)
    intro y hy
    refine gb_by hC ?_
    by_cases hm : id ∈ idsP p
    · have e := insK_twice g2 hr.1 (by omega) hm
      rw [e] at hy
      refine brV_by (fun h => by rw [hy] at h; cases h) (fun _ => toCut ?_)
      exact nxt p g2 (by omega) (fun y => ⟨fun h => .inr h, fun h => h.elim (fun h => h ▸ hm) (fun h => h)⟩) _
    · obtain ⟨ch, p', e, _, k2, k3, k4, _⟩ := insK_apply g2 hr.1 (by omega) hm
      have hK := condsK (mkC p) id
      rw [← hy] at hK
      refine brV_by (fun _ => ?_) (fun h => by rw [hy, e] at h; cases h)
      intro z hz
      refine gb_by (condsA hC hK) (toCut ?_)
      have hz2 : z = mkC p' := by rw [hz, hy, e]; exact k2
      rw [hz2]
      exact nxt p' k3 (by rw [k4, insS_length]; omega) (fun y => by rw [k4]; exact mem_insS _ _ _) _
  · have hi' : i = es.length := by have := of_decide_eq_false h; omega
    subst hi'
    refine leaveTo (toCut (Eq.mpr (ordersA_r es t (mkC p) [] _) ?_))
    clear hL
    have hw : IntKind.i64.wrap (((iv es).length : Int) - 1) = (es.length : Int) - 1 := by rw [wrap_i64 (by omega) (by omega)]; omega
    rw [hw]
    refine loopV_intro (α := List Pt × Nat) (fun s => ordersM_S es t (mkC p) (mkC s.1) ((s.2 : Int) - 1)) (fun s => s.2 ≤ es.length ∧ GoodC s.1 ∧ (idsP s.1).length ≤ es.length - s.2 ∧ ∀ y, y ∈ idsP s.1 ↔ ∃ j, s.2 ≤ j ∧ j < es.length ∧ mdN 100 (es.getD ((j + (mdN (es.length : Int) t).toNat) % es.length) 0) = y) (fun s => s.2) ?_ ([], es.length) ⟨Nat.le_refl _, good_nil, by simp [idsP], fun y => by
      simp only [idsP, List.flatMap_nil, List.not_mem_nil, false_iff]
      rintro ⟨j, h1, h2, _⟩; omega⟩
    rintro ⟨q, r⟩ ⟨k1, k2, k3, k4⟩ L hL
    simp only at k1 k2 k3 k4
    refine Eq.mpr (ordersM_r es t (mkC p) (mkC q) ((r : Int) - 1) L _) ?_
    simp only [hold_eq, hn]
    refine brV_by (fun h => ?_) (fun h => ?_)
    · have hr1 : 1 ≤ r := by have := of_decide_eq_true h; omega
      have hne : ((es.length : Int) ≠ 0) := by omega
      refine gb_by (dt hne) (gb_by (dt hne) (gb_by (dt hne) ?_))
      intro m hm
      have er : ((r : Int) - 1) = ((r - 1 : Nat) : Int) := by omega
      have hm2 : m = (((r - 1) + (mdN (es.length : Int) t).toNat) % es.length : Nat) := by
        rw [hm, er]
        exact mdN_shift (n := es.length) (i := r - 1) (t := t) (by omega) (by omega) (by omega)
      obtain ⟨k, hk⟩ : ∃ k : Nat, k = ((r - 1) + (mdN (es.length : Int) t).toNat) % es.length := ⟨_, rfl⟩
      rw [← hk] at hm2
      have hkl : k < es.length := by rw [hk]; exact Nat.mod_lt _ (by omega)
      subst hm2
      clear hm
      refine toCut (Eq.mpr (ordersB_r es t (mkC p) (mkC q) ((r : Int) - 1) k _) ?_)
      rw [elemAt_iv es k hkl]
      simp only [hold_eq, map_ckOf]
      have hC := condsP k2 (by omega)
      have e0 : Int.tmod (IntKind.i64.wrap (Int.tmod (AVal.intOf (List.getD [AVal.int .i64 es[k]] 0 .undef)) 100 + 100)) 100 = mdN 100 (es.getD k 0) := by rw [getD_get hkl]; rfl
      rw [e0]
      generalize hid : mdN 100 (es.getD k 0) = id at *
      have hr : 0 ≤ id ∧ id < 100 := by rw [← hid]; exact mdN_range (by omega) (by omega)
      have nxt : ∀ q' : List Pt, GoodC q' → (idsP q').length ≤ es.length - r + 1 → (∀ y, y ∈ idsP q' ↔ y = id ∨ y ∈ idsP q) → ∀ K : Exit → St → Prop, vc Try.prog cOrders ordersJ_C (thenK (fun s => L (St.norm [(5, 1004), (6, 1004)] [0, 1, 5, 6, 11] [] s)) K) (ordersJ_S es t (mkC p) (mkC q') ((r : Int) - 1)) := by
        intro q' q1 q2 q3 K
        refine Eq.mpr (ordersJ_r es t (mkC p) (mkC q') ((r : Int) - 1) _) ?_
        have hw : IntKind.i64.wrap ((r : Int) - 1 - 1) = ((r - 1 : Nat) : Int) - 1 := by rw [wrap_i64 (by omega) (by omega)]; omega
        rw [hw]
        refine hL (q', r - 1) ⟨by simp only; omega, q1, by simp only; omega, fun y => ?_⟩ (by simp only; omega)
        simp only
        rw [q3, k4]
        constructor
        · rintro (h | ⟨j, h1, h2, h3⟩)
          · exact ⟨r - 1, by omega, by omega, by rw [← hk, hid, h]⟩
          · exact ⟨j, by omega, h2, h3⟩
        · rintro ⟨j, h1, h2, h3⟩
          rcases Nat.lt_or_ge j r with h9 | h9
          · obtain rfl : j = r - 1 := by omega
            exact .inl (by rw [← h3, ← hk, hid])
          · exact .inr ⟨j, h9, h2, h3⟩
      refine gb_by (dt (by omega)) (gb_by rfl ?_)
      intro y hy
      refine gb_by hC ?_
      by_cases hm : id ∈ idsP q
      · have e := insK_twice k2 hr.1 (by omega) hm
        rw [e] at hy
        refine brV_by (fun h => by rw [hy] at h; cases h) (fun _ => inBlock (toCut ?_))
        exact nxt q k2 (by omega) (fun y => ⟨fun h => .inr h, fun h => h.elim (fun h => h ▸ hm) (fun h => h)⟩) _
      · obtain ⟨ch, q', e, _, m2, m3, m4, _⟩ := insK_apply k2 hr.1 (by omega) hm
        have hK := condsK (mkC q) id
        rw [← hy] at hK
        refine brV_by (fun _ => ?_) (fun h => by rw [hy, e] at h; cases h)
        intro z hz
        refine gb_by (condsA hC hK) (inBlock (toCut ?_))
        have hz2 : z = mkC q' := by rw [hz, hy, e]; exact m2
        rw [hz2]
        exact nxt q' m3 (by rw [m4, insS_length]; omega) (fun y => by rw [m4]; exact mem_insS _ _ _) _
    · have hr0 : r = 0 := by have := of_decide_eq_false h; omega
      subst hr0
      refine leaveTo (toCut (Eq.mpr (ordersF_r (mkC p) (mkC q) _) ?_))
      have hCp := condsP g2 (by omega)
      have hCq := condsP k2 (by omega)
      have hids : idsP p = idsP q := rise_ext g2.ris k2.ris fun y => by
        rw [g4, k4]
        constructor
        · rintro ⟨j, h1, h2⟩
          have hc := mdN_range (n := (es.length : Int)) (x := t) (by omega) (by omega)
          obtain ⟨c, hcc⟩ : ∃ c : Nat, (mdN (es.length : Int) t).toNat = c := ⟨_, rfl⟩
          have hcl : c < es.length := by omega
          rw [hcc]
          refine ⟨(j + es.length - c) % es.length, Nat.zero_le _, Nat.mod_lt _ (by omega), ?_⟩
          have e : ((j + es.length - c) % es.length + c) % es.length = j := by
            rw [Nat.mod_add_mod, show j + es.length - c + c = j + es.length by omega, Nat.add_mod_right, Nat.mod_eq_of_lt h1]
          rw [e]; exact h2
        · rintro ⟨j, h1, h2, h3⟩
          exact ⟨_, Nat.mod_lt _ (by omega), h3⟩
      simp only [hold_eq, map_ckOf, map_intOf_iv, g2.right, k2.right, brV_tt]
      refine gb_by hCp (gb_by hCq ?_)
      intro u hu
      refine gb_by hCp ?_
      intro v hv
      have huv : u = v := by rw [hu, hv, idsC_mkC, idsC_mkC, hids]
      have hul : u.length ≤ 1000 := by rw [hu, idsC_mkC]; omega
      have huiv : (iv u).length = u.length := iv_length u
      refine gb_by hCq (gb_by (and_tt (iv_isI64 _) (and_tt (iv_isI64 _) (lenOk_mk (by omega)))) ?_)
      rw [huv]
      simp
end Go.Proofs.Ytjdjecaclbdhhaa
