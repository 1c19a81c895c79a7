/-
  Seat 11 (leaf): the law LeafTurns over abstract values.
-/
import Derived.Test.YtlfnmhfmikomkaaIs
set_option linter.unusedVariables false
set_option linter.unusedSimpArgs false
set_option maxRecDepth 20000
set_option maxHeartbeats 2000000
namespace Go.Proofs.Ytlfnmhfmikomkaa
open Go.AL

theorem idx_bd {i p n : Nat} (t : Int) (hi : i < n) (hp : p < 2) (hn : n ≤ 40) :
    ∃ j : Nat, j < n ∧ Int.tmod (IntKind.i64.wrap (IntKind.i64.wrap ((i : Int) * IntKind.i64.wrap (1 + (p : Int))) + Int.tmod (IntKind.i64.wrap (Int.tmod t (n : Int) + (n : Int))) (n : Int))) (n : Int) = (j : Int) := by
  have hn0 : (0 : Int) < (n : Int) := by omega
  have a1 : Int.tmod t (n : Int) < (n : Int) := Int.tmod_lt_of_pos t hn0
  have a2 : -(n : Int) < Int.tmod t (n : Int) := by
    have := Int.tmod_lt_of_pos (-t) hn0
    rw [Int.neg_tmod] at this
    omega
  rw [wrap_i64 (n := Int.tmod t (n : Int) + (n : Int)) (by omega) (by omega)]
  have b0 : 0 ≤ Int.tmod t (n : Int) + (n : Int) := by omega
  have b1 := Int.tmod_nonneg (n : Int) b0
  have b2 := Int.tmod_lt_of_pos (Int.tmod t (n : Int) + (n : Int)) hn0
  generalize Int.tmod (Int.tmod t (n : Int) + (n : Int)) (n : Int) = u at b1 b2
  rw [wrap_i64 (n := 1 + (p : Int)) (by omega) (by omega)]
  have c : (i : Int) * (1 + (p : Int)) = (i : Int) ∨ (i : Int) * (1 + (p : Int)) = 2 * (i : Int) := by
    rcases (show p = 0 ∨ p = 1 by omega) with rfl | rfl
    · left; simp
    · right; rw [Int.mul_comm]; rfl
  have c1 : 0 ≤ (i : Int) * (1 + (p : Int)) ∧ (i : Int) * (1 + (p : Int)) ≤ 80 := by rcases c with c | c <;> rw [c] <;> omega
  generalize (i : Int) * (1 + (p : Int)) = v at c1
  rw [wrap_i64 (n := v) (by omega) (by omega), wrap_i64 (n := v + u) (by omega) (by omega)]
  have d1 := Int.tmod_nonneg (n : Int) (show 0 ≤ v + u by omega)
  have d2 := Int.tmod_lt_of_pos (v + u) hn0
  exact ⟨(Int.tmod (v + u) (n : Int)).toNat, by omega, by omega⟩
/-- The inner loop that lays the changed leaves into the map. -/
theorem turnsN_go (es : List Txt) (t : Int) (r : Root) (m : List (Int × Lf)) (n p i : Nat) (ls : List Lf) (hl : ls.length ≤ 2) (K : Exit → St → Prop)
    (hK : ∀ m' st, m' = putAll m ls → (St.norm [] [0, 1, 5, 7, 8, 9, 10] [5, 38] st = turnsM_S es t r m' n p i) → K (.exit 4) st) :
    loopV (fun s => St.norm [] [0, 1, 5, 7, 8, 9, 10, 13, 15] [5, 38] s) (vc Try.prog cTurns code_5_1_1_1_1_1_0_1_0_0_1_0_0_1_0_0_1_0_0_1_1_1_1_1_1_1_0_0) K (turnsN_S es t r m n p i ls 0) := by
  refine loopV_intro (α := Nat) (fun k => turnsN_S es t r (putAll m (ls.take k)) n p i ls k) (fun k => k ≤ ls.length) (fun k => ls.length - k) ?_ 0 (Nat.zero_le _)
  rintro k hk L hL
  refine Eq.mpr (turnsN_r es t r (putAll m (ls.take k)) n p i ls k L K) ?_
  have hlv : (lfv ls).length = ls.length := lfv_length ls
  simp only [hold_eq]
  refine brV_by (fun h => ?_) (fun h => ?_)
  · have hlt : k < ls.length := by have := of_decide_eq_true h; omega
    rw [elemAt_lfv ls k hlt]
    refine gb_by (dt (by omega)) (gb_by rfl (gb_by (dt (by omega)) (gb_by rfl (gb_by ?_ ?_))))
    · rw [keys_mi]; rfl
    · have e : mapPut (.int .i64 ls[k].1) (lfV ls[k]) (mi lfV (putAll m (ls.take k))) = mi lfV (putAll m (ls.take (k + 1))) := by
        rw [mapPut_mi, putAll_take m ls k hlt]
      have := hL (k + 1) hlt (by omega)
      rw [i64_succ hlt (by omega)]
      unfold turnsN_S at this
      rw [← e] at this
      exact this
  · have hk' : k = ls.length := by have := of_decide_eq_false h; omega
    refine hK (putAll m (ls.take k)) _ ?_ rfl
    rw [hk', List.take_length]
/-- Behind the first loops: all is taken out. -/
theorem turnsA_go (es : List Txt) (r : Root) (m : List (Int × Lf)) (n : Nat) (hn : n = es.length) (hn40 : n ≤ 40) (h : SI 81 (fun x => x ∈ es) r m) (Q : AVal → Sto → Prop) (hQ : Q (.bool true) Sto.empty) :
    vc Try.prog cTurns code_5_1_1_1_1_1_1 (endK Try.prog Try.f5.results.toList Q) (turnsA_S es r m n) := by
  refine Eq.mpr (turnsA_r es r m n Q) ?_
  have hev : (strv es).length = es.length := strv_length es
  show loopV _ _ _ (turnsO_S es r m n 0)
  refine loopV_intro (α := Nat × Root × List (Int × Lf)) (fun x => turnsO_S es x.2.1 x.2.2 n x.1) (fun x => x.1 ≤ n ∧ SI 81 (fun y => y ∈ es.drop x.1) x.2.1 x.2.2) (fun x => n - x.1) ?_ (0, r, m) ⟨Nat.zero_le _, by simpa using h⟩
  rintro ⟨i, r, m⟩ ⟨hi, hS⟩ L hL
  have hi : i ≤ n := hi
  have hS : SI 81 (fun y => y ∈ es.drop i) r m := hS
  refine Eq.mpr (turnsO_r es r m n i L _) ?_
  have hI := hS.idx
  have h61 := hS.few
  have h1' := hS.few1
  simp only [hold_eq]
  refine brV_by (fun hc => ?_) (fun hc => ?_)
  · have hlt : i < es.length := by have := of_decide_eq_true hc; omega
    rw [elemAt_strv es i hlt]
    refine gb_by (dt (by omega)) (gb_by rfl ?_)
    intro y hy
    have hy : y = findN r es[i] := by rw [hy, map_strOf_strv, map_intOf_iv]; rfl
    refine gb_by (rootG_mk (by omega) (by omega)) ?_
    have hnr := noRef_mi 18 m
    refine gb_by ?_ ?_
    · rw [hnr]; rfl
    have hmem : y ∈ r.2 := by rw [hy]; exact hI.find_mem _
    rw [look_gf hI hmem]
    refine gb_by (look_ok hI hmem) (gb_by (dt (by omega)) (gb_by rfl ?_))
    intro z hz
    have hz : z = remN r (gf m y) es[i] := by
      rw [hz, map_strOf_strv, map_intOf_iv]
      show remN (r.1, r.2) ((gf m y).1, (strv (gf m y).2.1).map AVal.strOf, (gf m y).2.2) es[i] = _
      rw [map_strOf_strv]
    refine gb_by (and_tt (rootM_mk (by omega) (by omega)) (lfG_mk' (hI.len4 hmem))) (gb_by ?_ ?_)
    · rw [hnr]; decide
    rw [hy] at hz
    rw [i64_succ hlt (by omega)]
    have hdrop : es.drop i = es[i] :: es.drop (i + 1) := List.drop_eq_getElem_cons hlt
    rcases step_rem hI hS.full es[i] with ⟨e1, e2⟩ | ⟨r', l, e1, e3, e4, e5, e6⟩
    · rw [e1] at hz
      subst hz
      refine brV_by (fun _ => ?_) (fun h => by have h : true = false := h; cases h)
      refine hL (i + 1, r, m) ⟨by show i + 1 ≤ n; omega, ⟨hI, hS.full, hS.few, fun x hx => ?_⟩⟩ (by show n - (i + 1) < n - i; omega)
      have := hS.ent x hx
      rw [hdrop] at this
      rcases List.mem_cons.1 this with rfl | h
      · exact (e2 hx).elim
      · exact h
    · rw [e1] at hz
      subst hz
      refine brV_by (fun h => by have h : false = true := h; cases h) (fun _ => brV_by' (fun _ => ?_) (fun h => by have h : false = true := h; cases h))
      refine brV_by (fun h => by have h : false = true := h; cases h) (fun _ => ?_)
      refine gb_by rfl (gb_by rfl (gb_by ?_ ?_))
      · rw [keys_mi]; rfl
      have e : mapPut (.int .i64 y) (lfV l) (mi lfV m) = mi lfV (putI y l m) := mapPut_mi _ _ _ _
      have := hL (i + 1, r', putI y l m) ⟨by show i + 1 ≤ n; omega, ⟨by rw [hy]; exact e4, by rw [hy]; exact e5, by show r'.2.length ≤ 81; omega, fun x hx => ?_⟩⟩ (by show n - (i + 1) < n - i; omega)
      · unfold turnsO_S at this
        simp only [] at this
        rw [← e] at this
        exact this
      · rw [hy] at hx
        obtain ⟨h1, h2⟩ := (e6 x).1 hx
        have := hS.ent x h2
        rw [hdrop] at this
        rcases List.mem_cons.1 this with h | h
        · exact (h1 h).elim
        · exact h
  · have hi' : i = es.length := by have := of_decide_eq_false hc; omega
    refine leaveTo (toCut (Eq.mpr (turnsF_r r m Q) ?_))
    obtain ⟨c1, c2, c3⟩ := hS.full.none hI fun x hx => by
      have := hS.ent x hx
      rw [hi', List.drop_length] at this
      cases this
    have hv1 : (iv r.2).length = r.2.length := iv_length _
    have hv2 : (strv r.1).length = r.1.length := strv_length _
    have h0 : 0 < r.2.length := by omega
    have eg : r.2.getD 0 0 = r.2[0] := by simp [List.getD_eq_getElem?_getD, h0]
    rw [eg] at c3
    have hmem : r.2[0] ∈ r.2 := List.getElem_mem h0
    have e0 : elemAt (iv r.2) 0 = [.int .i64 r.2[0]] := elemAt_iv r.2 0 h0
    rw [hv1, hv2, c1, c2, e0]
    refine brV_by (fun _ => brV_by (fun _ => ?_) (fun h => by rw [hold_eq] at h; cases h)) (fun h => by rw [hold_eq] at h; cases h)
    refine gb_by rfl (gb_by rfl ?_)
    have hlk := look_gf hI hmem
    have e1 : AVal.intOf (List.getD [AVal.int .i64 r.2[0]] 0 .undef) = r.2[0] := rfl
    rw [e1, hlk]
    refine gb_by (look_ok hI hmem) ?_
    show Q (.bool (hold (((strv (gf m r.2[0]).2.1).length : Int) == 0))) Sto.empty
    rw [c3, hold_eq]
    exact hQ
/-- LeafTurns. -/
theorem turns_c (es : List Txt) (t : Int) (hes : es.length ≤ 140737488351232) : ACall Try.prog 5 [.slice (strv es) 1 .ro, .int .i64 t] Sto.empty fun v _ => v = .bool true := by
  refine turns_i es t _ (.of [awakeE, emptyE, findE, insertE, removeE] rfl ⟨awake_ok, empty_ok, find_ok, insert_ok, remove_ok, trivial⟩) ?_
  have hev : (strv es).length = es.length := strv_length es
  simp only [hold_eq]
  refine brV_by' (fun h0 => ?_) (fun _ => trivial)
  refine brV_by (fun _ => trivial) (fun h1 => ?_)
  have hl : es.length ≤ 40 := by have := of_decide_eq_false h0; omega
  have hl1 : 1 ≤ es.length := by
    have : ¬ ((strv es).length : Int) = 0 := by simpa using h1
    omega
  rw [hev]
  generalize hn : es.length = n at hl hl1
  show loopV _ _ _ (turnsL_S es t ([], [1]) [(1, (1, [], false))] n 0)
  refine loopV_intro (α := Nat × Root × List (Int × Lf)) (fun x => turnsL_S es t x.2.1 x.2.2 n x.1) (fun x => x.1 ≤ 2 ∧ SI (40 * x.1 + 1) (fun y => y ∈ es) x.2.1 x.2.2) (fun x => 2 - x.1) ?_ (0, ([], [1]), [(1, (1, [], false))]) ⟨by show 0 ≤ 2; omega, SI.empty (Nat.le_refl _)⟩
  rintro ⟨p, r, m⟩ ⟨hp, hS⟩ L hL
  have hp : p ≤ 2 := hp
  have hS : SI (40 * p + 1) (fun y => y ∈ es) r m := hS
  refine Eq.mpr (turnsL_r es t r m n p L _) ?_
  simp only [hold_eq]
  refine brV_by (fun hc => ?_) (fun hc => ?_)
  case refine_2 =>
    have hp2 : p = 2 := by have := of_decide_eq_false hc; omega
    exact leaveTo (toCut (turnsA_go es r m n hn.symm hl (hS.cut (by omega)) _ rfl))
  have hp2 : p < 2 := by have := of_decide_eq_true hc; omega
  show loopV _ _ _ (turnsM_S es t r m n p 0)
  refine loopV_intro (α := Nat × Root × List (Int × Lf)) (fun x => turnsM_S es t x.2.1 x.2.2 n p x.1) (fun x => x.1 ≤ n ∧ SI (40 * p + x.1 + 1) (fun y => y ∈ es) x.2.1 x.2.2) (fun x => n - x.1) ?_ (0, r, m) ⟨Nat.zero_le _, hS⟩
  clear hS
  rintro ⟨i, r, m⟩ ⟨hi, hS⟩ L2 hL2
  have hi : i ≤ n := hi
  have hS : SI (40 * p + i + 1) (fun y => y ∈ es) r m := hS
  refine Eq.mpr (turnsM_r es t r m n p i L2 _) ?_
  have hI := hS.idx
  have h61 := hS.few
  have h1' := hS.few1
  simp only [hold_eq]
  refine brV_by (fun hc2 => ?_) (fun hc2 => ?_)
  · have hlt : i < n := by have := of_decide_eq_true hc2; omega
    obtain ⟨j, hj, ej⟩ := idx_bd t hlt hp2 hl
    simp only [ej]
    have hj' : j < es.length := by omega
    rw [elemAt_strv es j hj']
    refine gb_by (dt (by omega)) (gb_by (dt (by omega)) (gb_by (dt (by omega)) (gb_by (dt (by omega)) (gb_by rfl (brV_by (fun _ => rfl) (fun h3 => ?_))))))
    have hx : es[j].length ≤ 100 := by
      have h3 : ¬ (100 : Int) < (es[j].length : Int) := of_decide_eq_false h3
      omega
    have hnr := noRef_mi 12 m
    refine gb_by ?_ ?_
    · rw [hnr]; rfl
    intro y hy
    have hy : y = findN r es[j] := by rw [hy, map_strOf_strv, map_intOf_iv]; rfl
    refine gb_by (rootG_mk (by omega) (by omega)) ?_
    have hmem : y ∈ r.2 := by rw [hy]; exact hI.find_mem _
    rw [look_gf hI hmem]
    refine gb_by (look_ok hI hmem) ?_
    intro z hz
    have hz : z = insN r (gf m y) es[j] := by
      rw [hz, map_strOf_strv, map_intOf_iv]
      show insN (r.1, r.2) ((gf m y).1, (strv (gf m y).2.1).map AVal.strOf, (gf m y).2.2) es[j] = _
      rw [map_strOf_strv]
    refine gb_by (and_tt (rootM_mk (by omega) (by omega)) (lfG_mk' (hI.len4 hmem))) (gb_by ?_ ?_)
    · rw [hnr]; decide
    rw [hy] at hz
    rcases step_ins hI hS.full (s := es[j]) (by omega) with ⟨e1, _⟩ | ⟨r', ls, e1, e2, e3, e4, e5, e6⟩
    · rw [e1] at hz
      subst hz
      refine brV_by (fun _ => toCut (Eq.mpr (turnsI_r es t r m n p i _) ?_)) (fun h => by have h : true = false := h; cases h)
      rw [i64_succ hlt (by omega)]
      exact hL2 (i + 1, r, m) ⟨hlt, hS.cut (by omega)⟩ (by show n - (i + 1) < n - i; omega)
    · rw [e1] at hz
      subst hz
      refine brV_by (fun h => by have h : false = true := h; cases h) (fun _ => brV_by (fun h => by have h : false = true := h; cases h) (fun _ => ?_))
      refine turnsN_go es t r' m n p i ls e2 _ fun m' st hm' hst => ?_
      refine leaveK (inBlock (toCut ?_))
      rw [hst]
      refine Eq.mpr (turnsI_r es t r' m' n p i _) ?_
      rw [i64_succ hlt (by omega), hm']
      refine hL2 (i + 1, r', putAll m ls) ⟨hlt, ⟨e4, e5, by show r'.2.length ≤ 40 * p + (i + 1) + 1; omega, fun x hx' => ?_⟩⟩ (by show n - (i + 1) < n - i; omega)
      rcases (e6 x).1 hx' with rfl | h
      · exact List.getElem_mem hj'
      · exact hS.ent x h
  · have hi' : i = n := by have := of_decide_eq_false hc2; omega
    refine leaveK (inBlock (toCut (Eq.mpr (turnsJ_r es t r m n p _) ?_)))
    rw [i64_succ (n := 2) hp2 (by omega)]
    exact hL (p + 1, r, m) ⟨by show p + 1 ≤ 2; omega, hS.cut (by omega)⟩ (by show 2 - (p + 1) < 2 - p; omega)
theorem turns_law (xs : List AVal) (h : FitsL [.slice .str 1 16, .int .i64] xs) :
    ACall Try.prog 5 xs Sto.empty fun v _ => v = .bool true := by
  obtain ⟨a1, t1, rfl, f1, a2, t2, rfl, f2, rfl⟩ := h
  obtain ⟨l1, rfl, b1⟩ := fits_strv f1
  obtain ⟨t, rfl, _⟩ := f2
  exact turns_c l1 t (by omega)
end Go.Proofs.Ytlfnmhfmikomkaa
