/-
  Seat 12 (limbo): the law LimboOnce, walked with the kit.
-/
import Derived.Test.YtakidnohmfebmaaLN
import Derived.Deep.Cut
import Derived.Deep.CutRange
import Derived.Deep.DrawnRows
namespace Go.Proofs
open Go.RowKit Go.Maps Go.AL Ytakidnohmfebmaa
set_option linter.unusedSimpArgs false
set_option linter.unusedVariables false
set_option maxHeartbeats 4000000
set_option maxRecDepth 1000000
theorem awake12 (w : World) (hA : Known w) : Calls Try.prog 6 #[] w fun e w' => e = .returned (.bool true) ∧ Below w.heap.size w w' :=
  (awake_c.top hA (.nil _)).mono fun e w' ⟨v, r, γ', σ', h1, h2, h3, h4⟩ => by
    have := h3 γ' w' false v h2
    cases this
    exact ⟨h1, h4⟩
theorem mod100 (x : Int) : 0 ≤ (x.tmod 100 + 100).tmod 100 ∧ (x.tmod 100 + 100).tmod 100 < 100 ∧ -100 < x.tmod 100 ∧ x.tmod 100 < 100 := by
  have h1 := Int.tmod_lt_of_pos x (show (0 : Int) < 100 by omega)
  have h2 := Int.lt_tmod_of_pos x (show (0 : Int) < 100 by omega)
  have h3 := Int.tmod_nonneg 100 (show (0 : Int) ≤ x.tmod 100 + 100 by omega)
  have h4 := Int.tmod_lt_of_pos (x.tmod 100 + 100) (show (0 : Int) < 100 by omega)
  omega
theorem putM_same {k : Key} {e : Int} : ∀ {m : List (Key × Int)}, epochOf m k = some e → putM k e m = m
  | [], h => by cases h
  | x :: m, h => by
    rw [epochOf_cons] at h
    rw [putM]
    by_cases hx : x.1 = k
    · rw [if_pos hx] at h ⊢
      cases h
      rw [← hx]
    · rw [if_neg hx] at h ⊢
      rw [putM_same h]
theorem Ytakidnohmfebmaa.LInv.len {row : List Key} {m : List (Key × Int)} (h : LInv row m) : row.length = m.length := by
  have hp : row.Perm (keysM m) := (List.perm_ext_iff_of_nodup h.rowN h.keysN).2 h.same
  have := hp.length_eq
  simpa [keysM] using this
theorem Ytakidnohmfebmaa.LimH.rmap {w0 w w' : World} {γ : Gh} {p N : Nat} {X : Nat → Prop} {row : List Key} {m : List (Key × Int)} (h : LimH w0 γ w p X N row m) {b : Nat} (hb : MapChg w w' b) (hX : X b) {a : AVal} {v : Value} (hr : Rep γ w false a v) : Rep γ w' false a v :=
  hr.mono ⟨fun c o hi => ⟨hi, World.cell?_of_block (a := ⟨c, o, none⟩) (hb.block c fun e => (h.held.apart c (e ▸ hX)).2.2.2 o hi)⟩, fun _ _ _ h => h, fun p => OwnStep.refl _⟩
def ones (T : List Key) : List (Key × Int) := T.map fun k => (k, 1)
theorem ones_none {T : List Key} {x : Key} (h : x ∉ T) : epochOf (ones T) x = none := epochOf_none (by simpa [keysM, ones] using h)
theorem ones_put {T : List Key} {x : Key} (h : x ∉ T) : putM x 1 (ones T) = ones (T ++ [x]) := by
  induction T with
  | nil => rfl
  | cons y T ih =>
    have h1 : ¬ y = x := fun e => h (by simp [e])
    have h2 : x ∉ T := fun hx => h (by simp [hx])
    have := ih h2
    simp only [ones, List.map_cons, List.cons_append, putM] at this ⊢
    rw [if_neg h1, this]
theorem ones_some {T : List Key} {x : Key} (h : x ∈ T) : epochOf (ones T) x = some 1 := by
  induction T with
  | nil => cases h
  | cons y T ih =>
    simp only [ones, List.map_cons]
    rw [epochOf_cons]
    by_cases h1 : y = x
    · simp [h1]
    · rw [if_neg h1]
      rcases List.mem_cons.1 h with h2 | h2
      · exact (h1 h2.symm).elim
      · exact ih h2
theorem ones_length (T : List Key) : (ones T).length = T.length := by simp [ones]
/-- Where the taking stands. -/
structure Tak (m : List (Key × Int)) (j : Nat) (T row : List Key) (m' : List (Key × Int)) : Prop where
  inv : LInv row m'
  perm : (T ++ row).Perm (keysM m)
  eq : ∀ x ∈ row, epochOf m' x = epochOf m x
  ge : ∀ x ∈ row, ∀ y, epochOf m x = some y → (j : Int) - 1 ≤ y
theorem Tak.nodup {m m' : List (Key × Int)} {j : Nat} {T row : List Key} (h : Tak m j T row m') (hm : (keysM m).Nodup) : (T ++ row).Nodup := h.perm.nodup_iff.2 hm
theorem Tak.gone {m m' : List (Key × Int)} {j : Nat} {T row : List Key} (h : Tak m j T row m') {x : Key} (hx : x ∈ row.filter (below m' j)) : epochOf m x = some ((j : Int) - 1) := by
  obtain ⟨h1, h2⟩ := List.mem_filter.1 hx
  have h3 : (epochOf m x).isSome = true := (epochOf_isSome m x).2 (h.perm.mem_iff.1 (by simp [h1]))
  obtain ⟨y, hy⟩ := Option.isSome_iff_exists.1 h3
  have h4 := h.ge x h1 y hy
  unfold below at h2
  rw [h.eq x h1, hy, decide_eq_true_eq, Option.getD_some] at h2
  rw [hy, show y = (j : Int) - 1 by omega]
theorem Tak.step {m m' : List (Key × Int)} {j : Nat} {T row : List Key} (h : Tak m j T row m') : Tak m (j + 1) (T ++ row.filter (below m' j)) (row.filter fun k => !below m' j k) (delAll (row.filter (below m' j)) m') := by
  refine ⟨h.inv.out _, ?_, fun x hx => ?_, fun x hx y hy => ?_⟩
  · rw [List.append_assoc]
    exact ((List.filter_append_perm (below m' j) row).append_left T).trans h.perm
  · obtain ⟨h1, h2⟩ := List.mem_filter.1 hx
    rw [epochOf_delAll _ h.inv.keysN, if_neg, h.eq x h1]
    intro hc
    have := (List.mem_filter.1 hc).2
    rw [this] at h2
    cases h2
  · obtain ⟨h1, h2⟩ := List.mem_filter.1 hx
    unfold below at h2
    rw [h.eq x h1, hy, Option.getD_some] at h2
    have h3 : ¬ y < (j : Int) := by simpa using h2
    omega
theorem Tak.fresh {m m' : List (Key × Int)} {j : Nat} {T row : List Key} (h : Tak m j T row m') (hm : (keysM m).Nodup) {n : Nat} (hn : n < (row.filter (below m' j)).length) : (row.filter (below m' j))[n] ∉ T ++ (row.filter (below m' j)).take n := by
  have h1 : (T ++ row.filter (below m' j)).Nodup := (h.nodup hm).sublist ((List.filter_sublist).append_left T)
  obtain ⟨h2, h3, h4⟩ := List.nodup_append.1 h1
  intro hc
  rcases List.mem_append.1 hc with h5 | h5
  · exact h4 _ h5 _ (List.getElem_mem hn) rfl
  · obtain ⟨i, hi, he⟩ := List.mem_take_iff_getElem.1 h5
    exact (List.pairwise_iff_getElem.1 h3 i n _ hn (by omega)) he
theorem Tak.start {row : List Key} {m : List (Key × Int)} (h : LInv row m) (h0 : ∀ x y, epochOf m x = some y → 0 ≤ y ∧ y ≤ 99) : Tak m 0 [] row m :=
  ⟨h, (List.perm_ext_iff_of_nodup h.rowN h.keysN).2 h.same, fun _ _ => rfl, fun x _ y hy => by have := (h0 x y hy).1; omega⟩
theorem Tak.fin {m m' : List (Key × Int)} {T row : List Key} (h : Tak m 101 T row m') (h0 : ∀ x y, epochOf m x = some y → 0 ≤ y ∧ y ≤ 99) : row = [] ∧ T.length = m.length := by
  have hr : row = [] := by
    cases row with
    | nil => rfl
    | cons x r =>
      have h3 : (epochOf m x).isSome = true := (epochOf_isSome m x).2 (h.perm.mem_iff.1 (by simp))
      obtain ⟨y, hy⟩ := Option.isSome_iff_exists.1 h3
      have := h.ge x (by simp) y hy
      have := (h0 x y hy).2
      omega
  subst hr
  have := h.perm.length_eq
  exact ⟨rfl, by simpa [keysM] using this⟩
theorem once_walk (w : World) (hA : Known w) (v0 v1 : Value) (ks : List Key) (es : List Int) (h0 : KeysP w v0 ks) (h1 : IntsP w v1 es) :
    Calls Try.prog 3 #[v0, v1] w fun e w' => e = .returned (.bool true) ∧ Below w.heap.size w w' := by
  have hl0 : ∃ a c, v0 = .slice a ks.length c := by
    rcases h0 with ⟨rfl, a, rfl⟩ | ⟨b, off, cap, rfl, _⟩ <;> exact ⟨_, _, rfl⟩
  have hl1 : ∃ a c, v1 = .slice a es.length c := by
    rcases h1 with ⟨rfl, a, rfl⟩ | ⟨b, off, cap, rfl, _⟩ <;> exact ⟨_, _, rfl⟩
  obtain ⟨a0, c0, hv0⟩ := hl0
  obtain ⟨a1, c1, hv1⟩ := hl1
  rw [hv0, hv1]
  have hmm := @run_makeMap Try.prog
  go_enter Try.func3, Try.ntmps3
  go_wp2_with (go_at_call 6; refine (awake12 w hA).mono ?_)
  rintro e w1 ⟨rfl, hb1⟩
  by_cases hk : ks.length ≤ 30
  · have hk' : ¬ (30 < (ks.length : Int)) := by omega
    by_cases he : es.length ≤ 30
    · have he' : ¬ (30 < (es.length : Int)) := by omega
      go_wp2_with (go_at_call 7; refine (((Held.start w hA).grow hb1).call newK (.nil _)).mono ?_)
      rintro e w2 ⟨u, r, γ, τ, rfl, hr, ⟨rfl, rfl⟩, H, _, _, _⟩
      obtain ⟨p, hp, rfl⟩ : ∃ p, γ.obj (.out 1) = some p ∧ u = lptr p := by
        cases hr with
        | ptr hb _ => exact ⟨_, hb, rfl⟩
      have t1 : LimH w γ w2 p (fun _ => False) 0 [] [] := ⟨H, hp⟩
      clear H hr hp
      have hb2 := t1.held.below
      have h0a : KeysP w2 v0 ks := h0.keep hb2.size fun b hb _ => hb2.block b hb
      have t2 : LimH w γ (w2.alloc (.map #[] 0)) p (fun b => b = w2.heap.size) 0 [] [] :=
        t1.out rfl rfl rfl (by simp) (fun b hb _ => ((Below.refl w2.heap.size w2).alloc (Nat.le_refl _) _).block b hb) fun b hb => .inr (by subst hb; simp)
      have m2 : MapK (w2.alloc (.map #[] 0)) w2.heap.size [] := MapG.made _ _ _
      generalize hBe : w2.heap.size = B at *
      have hwB : w.heap.size ≤ B := hBe ▸ hb2.size
      clear hb2
      go_wp2
      go_loopw [7] (fun i wr => ∃ (k N : Nat) (row : List Key) (m : List (Key × Int)) (γ : Gh), k ≤ ks.length ∧ k ≤ es.length ∧ i = .int .i64 k ∧ LimH w γ wr p (fun b => b = B) N row m ∧ LInv row m ∧ MapK wr B m ∧ row.length ≤ k ∧ ∀ x y, epochOf m x = some y → 0 ≤ y ∧ y ≤ 99)
        (fun i _ => ks.length - (intOf i).toNat)
      case atStart => exact ⟨0, 0, [], [], γ, Nat.zero_le _, Nat.zero_le _, rfl, t2, LInv.nil, m2, Nat.le_refl _, fun x y h => by cases h⟩
      case round =>
        obtain ⟨k, N, row, m, γ, hk1, hk2, rfl, t3, hI, hm, hlen, hep⟩ := hrel
        by_cases hlt : k < ks.length
        · by_cases hlt2 : k < es.length
          · have hltI : (k : Int) < (ks.length : Int) := by omega
            have hltI2 : (k : Int) < (es.length : Int) := by omega
            have hb3 := t3.held.below
            rcases h0 with ⟨rfl, _⟩ | ⟨b, off, cap, hv, hc⟩
            · simp at hlt
            rcases h1 with ⟨rfl, _⟩ | ⟨b', off', cap', hv', hc'⟩
            · simp at hlt2
            rw [hv0] at hv
            rw [hv1] at hv'
            cases hv
            cases hv'
            obtain ⟨q0, p1, p2, p3, p4⟩ := hc k hlt
            have q1 := p1; have q2 := p2; have q3 := p3; have q4 := p4
            obtain ⟨r0, r1⟩ := hc' k hlt2
            rw [← hb3.cell (p := ⟨b, _, none⟩) q0] at q1 q2 q3 q4
            rw [← hb3.cell (p := ⟨b', _, none⟩) r0] at r1
            generalize hkk : ks[k] = x at *
            generalize hee : es[k] = y at *
            have hE := mod100 y
            obtain ⟨E, hEe⟩ : ∃ E, (y.tmod 100 + 100).tmod 100 = E := ⟨_, rfl⟩
            rw [hEe] at hE
            obtain ⟨hE0, hE1, hE2, hE3⟩ := hE
            obtain ⟨γ4, t4, hv4⟩ := one_h t3 x 30
            clear hc hc'
            have hcW : ∀ W, Below w.heap.size w W → W.cell? ⟨b, off + k * 4, none⟩ = some (.int .i64 x.1) ∧ W.cell? ⟨b, off + k * 4 + 1, none⟩ = some (.int .i64 x.2.1) ∧
                W.cell? ⟨b, off + k * 4 + 2, none⟩ = some (.int .i64 x.2.2.1) ∧ W.cell? ⟨b, off + k * 4 + 3, none⟩ = some (.string ⟨x.2.2.2.toArray⟩) := fun W hW =>
              ⟨(hW.cell (p := ⟨b, _, none⟩) q0).trans p1, (hW.cell (p := ⟨b, _, none⟩) q0).trans p2, (hW.cell (p := ⟨b, _, none⟩) q0).trans p3, (hW.cell (p := ⟨b, _, none⟩) q0).trans p4⟩
            clear p1 p2 p3 p4
            have hst := LInv.step (x := (N, row, m)) hI E x
            have hkv : keyVal x = .agg #[.int .i64 x.1, .int .i64 x.2.1, .int .i64 x.2.2.1, .string ⟨x.2.2.2.toArray⟩] := rfl
            go_wp2_with (go_at_call 8; refine (retire_h t4 E hv4 (by simp; omega)).mono ?_)
            intro e W5
            try simp only [and_imp, forall_exists_index, forall_eq]
            rintro rfl γ5 t5 hX5 hs5
            have hm5 : MapK W5 B m := hm.keep (hX5.trans (((Below.refl wr.heap.size wr).alloc (Nat.le_refl _) _).block B hm.lt))
            clear q1 q2 q3 q4 hX5 hs5 hv4 t4
            obtain ⟨g1, g2, g3, g4⟩ := hcW _ t5.held.below
            obtain ⟨_, l5⟩ := hm5.look x
            simp only [keyVal] at l5
            have hrn : retN E [x] (N, row, m) = retStep E (N, row, m) x := rfl
            rw [hrn] at t5
            have hlim : ∀ F, 0 ≤ F → F ≤ 99 → ∀ z y, epochOf (putM x F m) z = some y → 0 ≤ y ∧ y ≤ 99 := fun F h1 h2 z y h => by
              rw [epochOf_putM] at h
              split at h
              · cases h; exact ⟨h1, h2⟩
              · exact hep z y h
            cases ho : epochOf m x with
            | none =>
              have hS : retStep E (N, row, m) x = (N, row ++ [x], putM x E m) := by simp only [retStep, ho]
              rw [hS] at t5 hst
              have hF : epochOf (putM x E m) x = some E := by rw [epochOf_putM, if_pos rfl]
              have hep' := hlim E (by omega) (by omega)
              obtain ⟨W6, hu6, hm6, hch6⟩ := hm5.put x E
              simp only [keyVal] at hu6
              have t6 := t5.map hch6 rfl
              obtain ⟨hI', hln'⟩ := hst
              have hln := hI'.len
              simp only [] at hI' hln hln' t6
              rw [ho] at l5
              simp only [Option.getD_none, Option.isSome_none] at l5
              generalize putM x E m = m' at *
              generalize row ++ [x] = row' at *
              generalize hNN : N = N' at t6
              have hb6 := t6.held.below
              obtain ⟨f1, f2, f3, f4⟩ := hcW _ hb6
              go_wp2_with (go_at_call 9; refine (epoch_h t6 x).mono ?_)
              intro e W7
              try simp only [and_imp, forall_exists_index, forall_eq]
              rintro rfl γ7 t7 hX7 hs7
              have hm7 : MapK W7 B m' := hm6.keep hX7
              obtain ⟨f1, f2, f3, f4⟩ := hcW _ t7.held.below
              obtain ⟨l7, _⟩ := hm7.look x
              rw [hF] at l7 ⊢
              simp only [Option.getD_some, Option.isSome_some, keyVal] at l7 ⊢
              go_wp2_with (go_at_call 10; refine (len_h t7).mono ?_)
              intro e W8
              try simp only [and_imp, forall_exists_index, forall_eq]
              rintro rfl γ8 t8 hX8 hs8
              have hm8 : MapK W8 B m' := hm7.keep hX8
              have s8 := hm8.size 3
              rw [hln]
              go_wp2
              exact ⟨⟨k + 1, N', row', m', γ8, hlt, hlt2, by simp, t8, hI', hm8, by omega, hep'⟩, by simp only [intOf]; omega⟩
            | some old =>
              have hold := hep x old ho
              rw [ho] at l5
              simp only [Option.getD_some, Option.isSome_some] at l5
              have hS : retStep E (N, row, m) x = (N + 2, row.filter (fun y => !(y == x)) ++ [x], putM x (max old E) m) := by simp only [retStep, ho]
              rw [hS] at t5 hst
              obtain ⟨hI', hln'⟩ := hst
              have hln := hI'.len
              simp only [] at hI' hln hln'
              by_cases hgt : old < E
              · rw [show max old E = E by omega] at t5 hI' hln
                have hF : epochOf (putM x E m) x = some E := by rw [epochOf_putM, if_pos rfl]
                have hep' := hlim E (by omega) (by omega)
                obtain ⟨W6, hu6, hm6, hch6⟩ := hm5.put x E
                simp only [keyVal] at hu6
                have t6 := t5.map hch6 rfl
                simp only [] at t6
                generalize putM x E m = m' at *
                generalize row.filter (fun y => !(y == x)) ++ [x] = row' at *
                generalize hNN : N + 2 = N' at t6
                have hb6 := t6.held.below
                obtain ⟨f1, f2, f3, f4⟩ := hcW _ hb6
                go_wp2_with (go_at_call 9; refine (epoch_h t6 x).mono ?_)
                intro e W7
                try simp only [and_imp, forall_exists_index, forall_eq]
                rintro rfl γ7 t7 hX7 hs7
                have hm7 : MapK W7 B m' := hm6.keep hX7
                obtain ⟨f1, f2, f3, f4⟩ := hcW _ t7.held.below
                obtain ⟨l7, _⟩ := hm7.look x
                rw [hF] at l7 ⊢
                simp only [Option.getD_some, Option.isSome_some, keyVal] at l7 ⊢
                go_wp2_with (go_at_call 10; refine (len_h t7).mono ?_)
                intro e W8
                try simp only [and_imp, forall_exists_index, forall_eq]
                rintro rfl γ8 t8 hX8 hs8
                have hm8 : MapK W8 B m' := hm7.keep hX8
                have s8 := hm8.size 3
                rw [hln]
                go_wp2
                exact ⟨⟨k + 1, N', row', m', γ8, hlt, hlt2, by simp, t8, hI', hm8, by omega, hep'⟩, by simp only [intOf]; omega⟩
              · have hmo : putM x (max old E) m = m := by rw [show max old E = old by omega, putM_same ho]
                rw [hmo] at t5 hI' hln
                have hF : epochOf m x = some old := ho
                have hep' := hep
                have t6 := t5
                have hm6 := hm5
                simp only [] at t6
                generalize hmm' : m = m' at *
                generalize row.filter (fun y => !(y == x)) ++ [x] = row' at *
                generalize hNN : N + 2 = N' at t6
                have hb6 := t6.held.below
                obtain ⟨f1, f2, f3, f4⟩ := hcW _ hb6
                go_wp2_with (go_at_call 9; refine (epoch_h t6 x).mono ?_)
                intro e W7
                try simp only [and_imp, forall_exists_index, forall_eq]
                rintro rfl γ7 t7 hX7 hs7
                have hm7 : MapK W7 B m' := hm6.keep hX7
                obtain ⟨f1, f2, f3, f4⟩ := hcW _ t7.held.below
                obtain ⟨l7, _⟩ := hm7.look x
                rw [hF] at l7 ⊢
                simp only [Option.getD_some, Option.isSome_some, keyVal] at l7 ⊢
                go_wp2_with (go_at_call 10; refine (len_h t7).mono ?_)
                intro e W8
                try simp only [and_imp, forall_exists_index, forall_eq]
                rintro rfl γ8 t8 hX8 hs8
                have hm8 : MapK W8 B m' := hm7.keep hX8
                have s8 := hm8.size 3
                rw [hln]
                go_wp2
                exact ⟨⟨k + 1, N', row', m', γ8, hlt, hlt2, by simp, t8, hI', hm8, by omega, hep'⟩, by simp only [intOf]; omega⟩
          · -- the row of epochs is over
            have hltI : (k : Int) < (ks.length : Int) := by omega
            have hltI2 : ¬ (k : Int) < (es.length : Int) := by omega
            go_wp2
            have hwr := t3.held.below.size
            have hBw := hm.lt
            have hbA := (Below.refl wr.heap.size wr).alloc (Nat.le_refl _) (.map #[] 0)
            have t4 : LimH w γ (wr.alloc (.map #[] 0)) p (fun b => b = B ∨ b = wr.heap.size) N row m :=
              t3.out rfl rfl rfl (by simp) (fun b hb _ => hbA.block b hb) fun b hb => by
                rcases hb with rfl | rfl
                · exact .inl rfl
                · exact .inr ⟨Nat.le_refl _, by simp⟩
            have m4 : MapK (wr.alloc (.map #[] 0)) B m := hm.keep (hbA.block B hBw)
            have g4 : MapK (wr.alloc (.map #[] 0)) wr.heap.size (ones []) := MapG.made _ _ _
            have hBB : B ≠ wr.heap.size := by omega
            have hkN := hI.keysN
            have tk0 := Tak.start hI hep
            generalize wr.heap.size = B2 at *
            go_loopw [14] (fun e wr => ∃ (j N' : Nat) (row' T : List Key) (m' : List (Key × Int)) (γ : Gh), j ≤ 101 ∧ e = .int .i64 j ∧ LimH w γ wr p (fun b => b = B ∨ b = B2) N' row' m' ∧ row'.length ≤ 100 ∧ MapK wr B m ∧ MapK wr B2 (ones T) ∧ Tak m j T row' m')
              (fun e _ => 101 - (intOf e).toNat)
            case atStart => exact ⟨0, N, row, [], m, γ, by omega, rfl, t4, by omega, m4, g4, tk0⟩
            case round =>
              obtain ⟨j, N', row', T, m', γj, hj, rfl, tj, hrl, hmj, hgj, tk⟩ := hrel
              by_cases hj100 : j ≤ 100
              · have hjI : (j : Int) ≤ 100 := by omega
                go_wp2_with (go_at_call 11; refine (take_h tj j (by omega)).mono ?_)
                intro e Wk
                try simp only [and_imp, forall_exists_index, forall_eq, forall_eq_or_imp]
                rintro u γk rfl hu tkk hXB hXB2 hsk
                have hmk := hmj.keep hXB
                have hgk := hgj.keep hXB2
                have tk' := tk.step
                have hgone := fun x hx => tk.gone (x := x) hx
                have hfresh := fun n hn => tk.fresh hkN (n := n) hn
                have hrl' : (row'.filter fun k => !below m' j k).length ≤ 100 := Nat.le_trans (List.length_filter_le _ _) hrl
                have hGl : (row'.filter (below m' j)).length ≤ 100 := Nat.le_trans (List.length_filter_le _ _) hrl
                generalize hG : row'.filter (below m' j) = G at *
                generalize row'.filter (fun k => !below m' j k) = left at *
                generalize delAll G m' = m2 at *
                have hus : ∃ a c, u = .slice a G.length c := by
                  rcases rep_keys hu with ⟨rfl, a, rfl⟩ | ⟨b, off, cap, rfl, _⟩ <;> exact ⟨_, _, rfl⟩
                obtain ⟨au, cu, rfl⟩ := hus
                go_wp2
                go_loopw [16] (fun i wr => ∃ n : Nat, n ≤ G.length ∧ i = .int .i64 n ∧ LimH w γk wr p (fun b => b = B ∨ b = B2) (N' + 2) left m2 ∧ Rep γk wr false (.slice (kv G) 4 .ro) (.slice au G.length cu) ∧ MapK wr B m ∧ MapK wr B2 (ones (T ++ G.take n)))
                  (fun i _ => G.length - (intOf i).toNat)
                case atStart => exact ⟨0, Nat.zero_le _, rfl, tkk, hu, hmk, by simpa using hgk⟩
                case round =>
                  obtain ⟨n, hn, rfl, tn, hun, hmn, hgn⟩ := hrel
                  by_cases hltn : n < G.length
                  · have hltnI : (n : Int) < (G.length : Int) := by omega
                    have hn100 : (n : Int) ≤ 1000 := by omega
                    have hx1 := hgone G[n] (List.getElem_mem hltn)
                    have hx2 := hfresh n hltn
                    have hT1 : T ++ G.take n ++ [G[n]] = T ++ G.take (n + 1) := by rw [List.take_succ_eq_append_getElem hltn, List.append_assoc]
                    have hgd : MapK wr.drew B2 (ones (T ++ G.take n)) := hgn.keep rfl
                    obtain ⟨st, w1, w2, i1, i2, i3, hg2, hc1, hc2⟩ := hgd.inc G[n] 1
                    have ig := (hgd.look G[n]).1
                    rw [ones_put hx2, hT1] at hg2
                    rw [ones_none hx2] at i1 i2 ig
                    have hc12 : MapChg wr w2 B2 := by
                      have h := hc1.trans hc2
                      exact ⟨h.os, h.tape, h.output, h.size, h.block⟩
                    have tn2 := tn.map hc12 (.inr rfl)
                    have hun2 := tn.rmap hc12 (.inr rfl) hun
                    have hm2 : MapK w2 B m := hmn.keep (hc12.block B hBB)
                    have il := (hm2.look G[n]).1
                    have ig2 := (hg2.look G[n]).1
                    rw [hx1] at il
                    rw [ones_some (by rw [← hT1]; exact List.mem_append.2 (.inr (List.mem_singleton.2 rfl)))] at ig2
                    have k0 := rep_keys hun
                    have k2 := rep_keys hun2
                    rcases k0 with ⟨rfl, _⟩ | ⟨b, off, cap, hv, k0⟩
                    · simp at hltn
                    cases hv
                    rcases k2 with ⟨rfl, _⟩ | ⟨b, off, cap, hv, k2⟩
                    · simp at hltn
                    cases hv
                    obtain ⟨-, p1, p2, p3, p4⟩ := k0 n hltn
                    obtain ⟨-, q1, q2, q3, q4⟩ := k2 n hltn
                    simp only [Option.getD_none, Option.getD_some, keyVal, goInt] at i1 i2 i3 ig il ig2
                    have hrl2 : ∃ n' : Nat, n' ≤ G.length ∧ Value.int .i64 ((n : Int) + 1) = .int .i64 n' ∧ LimH w γk w2 p (fun b => b = B ∨ b = B2) (N' + 2) left m2 ∧ Rep γk w2 false (.slice (kv G) 4 .ro) (.slice (some ⟨b, off, none⟩) G.length cu) ∧ MapK w2 B m ∧ MapK w2 B2 (ones (T ++ G.take n')) :=
                      ⟨n + 1, hltn, by simp, tn2, hun2, hm2, hg2⟩
                    generalize G[n] = x at *
                    clear hgd k0 k2 hgone hfresh hx1 hx2 hT1 hun hun2 tn tn2 hgn hmn hm2 hg2 tj tkk hu hXB hXB2 hmj hgj hmk hgk t3 t4 tk tk' m4 g4 hm
                    go_wp2
                    go_region
                    go_wp2
                    exact ⟨hrl2, by simp only [intOf]; omega⟩
                  · have hltnI : ¬ (n : Int) < (G.length : Int) := by omega
                    rw [List.take_of_length_le (by omega)] at hgn
                    go_wp2
                    exact ⟨⟨j + 1, N' + 2, left, T ++ G, m2, γk, by omega, by simp, tn, hrl', hmn, hgn, tk'⟩, by simp only [intOf]; omega⟩
              · have hjI : ¬ (j : Int) ≤ 100 := by omega
                obtain rfl : j = 101 := by omega
                obtain ⟨rfl, hTl⟩ := tk.fin hep
                go_wp2_with (go_at_call 10; refine (len_h tj).mono ?_)
                intro e Wk
                try simp only [and_imp, forall_exists_index, forall_eq, forall_eq_or_imp]
                rintro rfl γk tkk hXB hXB2 hsk
                have s1 := MapK.size (hmj.keep hXB) 3
                have s2 := MapK.size (hgj.keep hXB2) 3
                rw [ones_length, hTl] at s2
                go_wp2
                go_ret
                exact ⟨rfl, tkk.held.below⟩
        · -- the row of keys is over
          have hltI : ¬ (k : Int) < (ks.length : Int) := by omega
          go_wp2
          have hwr := t3.held.below.size
          have hBw := hm.lt
          have hbA := (Below.refl wr.heap.size wr).alloc (Nat.le_refl _) (.map #[] 0)
          have t4 : LimH w γ (wr.alloc (.map #[] 0)) p (fun b => b = B ∨ b = wr.heap.size) N row m :=
            t3.out rfl rfl rfl (by simp) (fun b hb _ => hbA.block b hb) fun b hb => by
              rcases hb with rfl | rfl
              · exact .inl rfl
              · exact .inr ⟨Nat.le_refl _, by simp⟩
          have m4 : MapK (wr.alloc (.map #[] 0)) B m := hm.keep (hbA.block B hBw)
          have g4 : MapK (wr.alloc (.map #[] 0)) wr.heap.size (ones []) := MapG.made _ _ _
          have hBB : B ≠ wr.heap.size := by omega
          have hkN := hI.keysN
          have tk0 := Tak.start hI hep
          generalize wr.heap.size = B2 at *
          go_loopw [14] (fun e wr => ∃ (j N' : Nat) (row' T : List Key) (m' : List (Key × Int)) (γ : Gh), j ≤ 101 ∧ e = .int .i64 j ∧ LimH w γ wr p (fun b => b = B ∨ b = B2) N' row' m' ∧ row'.length ≤ 100 ∧ MapK wr B m ∧ MapK wr B2 (ones T) ∧ Tak m j T row' m')
            (fun e _ => 101 - (intOf e).toNat)
          case atStart => exact ⟨0, N, row, [], m, γ, by omega, rfl, t4, by omega, m4, g4, tk0⟩
          case round =>
            obtain ⟨j, N', row', T, m', γj, hj, rfl, tj, hrl, hmj, hgj, tk⟩ := hrel
            by_cases hj100 : j ≤ 100
            · have hjI : (j : Int) ≤ 100 := by omega
              go_wp2_with (go_at_call 11; refine (take_h tj j (by omega)).mono ?_)
              intro e Wk
              try simp only [and_imp, forall_exists_index, forall_eq, forall_eq_or_imp]
              rintro u γk rfl hu tkk hXB hXB2 hsk
              have hmk := hmj.keep hXB
              have hgk := hgj.keep hXB2
              have tk' := tk.step
              have hgone := fun x hx => tk.gone (x := x) hx
              have hfresh := fun n hn => tk.fresh hkN (n := n) hn
              have hrl' : (row'.filter fun k => !below m' j k).length ≤ 100 := Nat.le_trans (List.length_filter_le _ _) hrl
              have hGl : (row'.filter (below m' j)).length ≤ 100 := Nat.le_trans (List.length_filter_le _ _) hrl
              generalize hG : row'.filter (below m' j) = G at *
              generalize row'.filter (fun k => !below m' j k) = left at *
              generalize delAll G m' = m2 at *
              have hus : ∃ a c, u = .slice a G.length c := by
                rcases rep_keys hu with ⟨rfl, a, rfl⟩ | ⟨b, off, cap, rfl, _⟩ <;> exact ⟨_, _, rfl⟩
              obtain ⟨au, cu, rfl⟩ := hus
              go_wp2
              go_loopw [16] (fun i wr => ∃ n : Nat, n ≤ G.length ∧ i = .int .i64 n ∧ LimH w γk wr p (fun b => b = B ∨ b = B2) (N' + 2) left m2 ∧ Rep γk wr false (.slice (kv G) 4 .ro) (.slice au G.length cu) ∧ MapK wr B m ∧ MapK wr B2 (ones (T ++ G.take n)))
                (fun i _ => G.length - (intOf i).toNat)
              case atStart => exact ⟨0, Nat.zero_le _, rfl, tkk, hu, hmk, by simpa using hgk⟩
              case round =>
                obtain ⟨n, hn, rfl, tn, hun, hmn, hgn⟩ := hrel
                by_cases hltn : n < G.length
                · have hltnI : (n : Int) < (G.length : Int) := by omega
                  have hn100 : (n : Int) ≤ 1000 := by omega
                  have hx1 := hgone G[n] (List.getElem_mem hltn)
                  have hx2 := hfresh n hltn
                  have hT1 : T ++ G.take n ++ [G[n]] = T ++ G.take (n + 1) := by rw [List.take_succ_eq_append_getElem hltn, List.append_assoc]
                  have hgd : MapK wr.drew B2 (ones (T ++ G.take n)) := hgn.keep rfl
                  obtain ⟨st, w1, w2, i1, i2, i3, hg2, hc1, hc2⟩ := hgd.inc G[n] 1
                  have ig := (hgd.look G[n]).1
                  rw [ones_put hx2, hT1] at hg2
                  rw [ones_none hx2] at i1 i2 ig
                  have hc12 : MapChg wr w2 B2 := by
                    have h := hc1.trans hc2
                    exact ⟨h.os, h.tape, h.output, h.size, h.block⟩
                  have tn2 := tn.map hc12 (.inr rfl)
                  have hun2 := tn.rmap hc12 (.inr rfl) hun
                  have hm2 : MapK w2 B m := hmn.keep (hc12.block B hBB)
                  have il := (hm2.look G[n]).1
                  have ig2 := (hg2.look G[n]).1
                  rw [hx1] at il
                  rw [ones_some (by rw [← hT1]; exact List.mem_append.2 (.inr (List.mem_singleton.2 rfl)))] at ig2
                  have k0 := rep_keys hun
                  have k2 := rep_keys hun2
                  rcases k0 with ⟨rfl, _⟩ | ⟨b, off, cap, hv, k0⟩
                  · simp at hltn
                  cases hv
                  rcases k2 with ⟨rfl, _⟩ | ⟨b, off, cap, hv, k2⟩
                  · simp at hltn
                  cases hv
                  obtain ⟨-, p1, p2, p3, p4⟩ := k0 n hltn
                  obtain ⟨-, q1, q2, q3, q4⟩ := k2 n hltn
                  simp only [Option.getD_none, Option.getD_some, keyVal, goInt] at i1 i2 i3 ig il ig2
                  have hrl2 : ∃ n' : Nat, n' ≤ G.length ∧ Value.int .i64 ((n : Int) + 1) = .int .i64 n' ∧ LimH w γk w2 p (fun b => b = B ∨ b = B2) (N' + 2) left m2 ∧ Rep γk w2 false (.slice (kv G) 4 .ro) (.slice (some ⟨b, off, none⟩) G.length cu) ∧ MapK w2 B m ∧ MapK w2 B2 (ones (T ++ G.take n')) :=
                    ⟨n + 1, hltn, by simp, tn2, hun2, hm2, hg2⟩
                  generalize G[n] = x at *
                  clear hgd k0 k2 hgone hfresh hx1 hx2 hT1 hun hun2 tn tn2 hgn hmn hm2 hg2 tj tkk hu hXB hXB2 hmj hgj hmk hgk t3 t4 tk tk' m4 g4 hm
                  go_wp2
                  go_region
                  go_wp2
                  exact ⟨hrl2, by simp only [intOf]; omega⟩
                · have hltnI : ¬ (n : Int) < (G.length : Int) := by omega
                  rw [List.take_of_length_le (by omega)] at hgn
                  go_wp2
                  exact ⟨⟨j + 1, N' + 2, left, T ++ G, m2, γk, by omega, by simp, tn, hrl', hmn, hgn, tk'⟩, by simp only [intOf]; omega⟩
            · have hjI : ¬ (j : Int) ≤ 100 := by omega
              obtain rfl : j = 101 := by omega
              obtain ⟨rfl, hTl⟩ := tk.fin hep
              go_wp2_with (go_at_call 10; refine (len_h tj).mono ?_)
              intro e Wk
              try simp only [and_imp, forall_exists_index, forall_eq, forall_eq_or_imp]
              rintro rfl γk tkk hXB hXB2 hsk
              have s1 := MapK.size (hmj.keep hXB) 3
              have s2 := MapK.size (hgj.keep hXB2) 3
              rw [ones_length, hTl] at s2
              go_wp2
              go_ret
              exact ⟨rfl, tkk.held.below⟩
    · have he' : 30 < (es.length : Int) := by omega
      go_wp2_with (go_at_call 6; refine (awake12 w1 (hA.below hb1)).mono ?_)
      rintro e w2 ⟨rfl, hb2⟩
      go_wp2
      go_ret
      exact ⟨rfl, hb1.trans (hb2.mono hb1.size)⟩
  · have hk' : 30 < (ks.length : Int) := by omega
    go_wp2_with (go_at_call 6; refine (awake12 w1 (hA.below hb1)).mono ?_)
    rintro e w2 ⟨rfl, hb2⟩
    go_wp2
    go_ret
    exact ⟨rfl, hb1.trans (hb2.mono hb1.size)⟩
end Go.Proofs
namespace Go.Proofs.Ytakidnohmfebmaa
open Go.AL
theorem once_law (xs0 : List AVal) (h : FitsL [.slice (.agg [.int .i64, .int .i64, .int .i64, .str]) 4 40, .slice (.int .i64) 1 8] xs0) : ACall Try.prog 3 xs0 Sto.empty fun r _ => r = .bool true := by
  simp only [FitsL] at h
  obtain ⟨a, r, rfl, h1, a', r', rfl, h2, rfl⟩ := h
  obtain ⟨ks, rfl, _⟩ := fits_keys h1
  obtain ⟨l, rfl, _⟩ := fits_iv h2
  have key : PCall Try.prog 3 [.slice (kv ks) 4 .ro, .slice (iv l) 1 .ro] (.bool true) := .ofBelowK fun γ w vs hA hr => by
    obtain ⟨u, v, rfl, q1, q2⟩ := repL2 hr
    exact (once_walk w hA u v ks l (rep_keys q1) (rep_ints q2)).mono fun e w' ⟨e1, e2⟩ => ⟨_, e1, .bool _ _, e2⟩
  exact (key Sto.empty).mono fun r τ h => h.1
end Go.Proofs.Ytakidnohmfebmaa
