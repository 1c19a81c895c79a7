/-
  Seat 07 (disk): the law DiskActs, walked with the kit.
-/
import Derived.Test.YtekcekddahkajaaDP
import Derived.Deep.Cut
import Derived.Deep.CutRange
namespace Go.Proofs
open Go.RowKit Ytekcekddahkajaa
set_option linter.unusedSimpArgs false
set_option linter.unusedVariables false
set_option maxHeartbeats 4000000
set_option maxRecDepth 1000000
attribute [local go_sem ↓] Go.wp_at_zero Go.wp_at_succ
theorem SlBs.len {N : Nat → Prop} {w : World} {v : Value} {ls : List (List UInt8)} (h : SlBs N w v ls) : ∃ a c, v = .slice a ls.length c := by
  rcases h with ⟨rfl, a, rfl⟩ | ⟨b, off, cap, rfl, _⟩
  · exact ⟨_, _, rfl⟩
  · exact ⟨_, _, rfl⟩
theorem acts_walk (w : World) (room : Int) (v : Value) (acts : List AL.Act7) (hv : ActsP w v acts) :
    Calls Try.prog 6 #[.int .i64 room, v] w fun e w' => e = .returned (.bool true) ∧ Below w.heap.size w w' := by
  have hlen : ∃ a c, v = .slice a acts.length c := by
    rcases hv with ⟨rfl, a, rfl⟩ | ⟨b, off, cap, rfl, _⟩ <;> exact ⟨_, _, rfl⟩
  obtain ⟨va, vc, hvv⟩ := hlen
  rw [hvv]
  go_enter Try.func6, Try.ntmps6
  go_wp2_with (go_at_call 7; refine (awake_walk w).mono ?_)
  rintro e w1 ⟨rfl, hb1⟩
  by_cases hl : acts.length ≤ 60
  · have hl' : ¬ (60 < (acts.length : Int)) := by omega
    by_cases hroom : 0 ≤ room ∧ room ≤ 1073741824
    · obtain ⟨hr0, hr1⟩ := hroom
      have hr2 : ¬ room < 0 := by omega
      have hr3 : ¬ 1073741824 < room := by omega
      go_wp2_with (go_at_call 8; refine (new_walk room hr0 hr1).mono ?_)
      rintro e w2 ⟨rfl, hd, hb⟩
      have hp2 : w1.heap.size < w2.heap.size := hd.lt.1
      have h0 : Both w (w2.alloc (.cells #[.int .i64 room, .slice none 0 0, .slice none 0 0] 41)) (w2.heap.size + 1) (fun _ => False) w1.heap.size w2.heap.size room 0 [] [] [] := by
        refine ⟨none, none, none, hd.grow ((Below.refl _ _).alloc (Nat.le_refl _) _), ⟨_, _, heap_alloc_new _ _, World.ownsRow_nil _ _ _ _, rfl, World.ownsRow_nil _ _ _ _, rfl, nofun⟩, hb1.size, hp2, nofun, fun k hk => ?_, by simp, (hb1.trans (hb.mono hb1.size)).alloc (by have := hb1.size; omega) _, fun k hk => hk.elim⟩
        rcases hk with rfl | hk | hk
        · omega
        · cases hk
        · cases hk
      have h0 := h0.up
      generalize hp : w1.heap.size = p at *
      generalize hq : w2.heap.size = q at *
      go_wp2
      go_loopw [8] (fun i wr => ∃ k : Nat, k ≤ acts.length ∧ i = .int .i64 k ∧ ∃ sf rs : List UInt8, ((sf.length + rs.length : Nat) : Int) ≤ room ∧ Both w wr wr.heap.size (fun _ => False) p q room sf.length (sf ++ rs) sf rs)
        (fun i _ => acts.length - (intOf i).toNat)
      case atStart => exact ⟨0, Nat.zero_le _, rfl, [], [], hr0, h0⟩
      case round =>
        obtain ⟨k, hk, rfl, sf, rs, hfit, hbo⟩ := hrel
        by_cases hlt : k < acts.length
        · rcases hv with ⟨rfl, _⟩ | ⟨b, off, cap, hv0, hcell⟩
          · simp at hlt
          obtain ⟨rfl, rfl⟩ : va = some ⟨b, off, none⟩ ∧ vc = cap := by rw [hvv] at hv0; cases hv0; exact ⟨rfl, rfl⟩
          obtain ⟨hbw, c0, c1, u, c2, hsl⟩ := hcell k hlt
          have hbel := hbo.below
          rw [← hbel.cell (p := ⟨b, _, none⟩) hbw] at c0 c1 c2
          have hsl1 := hsl.grow hbel
          obtain ⟨ua, uc, rfl⟩ := hsl.len
          have hrel' : ∀ wr' sf' rs', ((sf'.length + rs'.length : Nat) : Int) ≤ room → Both w wr' wr'.heap.size (fun _ => False) p q room sf'.length (sf' ++ rs') sf' rs' → ∃ j : Nat, j ≤ acts.length ∧ Value.int .i64 ((k : Int) + 1) = .int .i64 j ∧ ∃ sf rs : List UInt8, ((sf.length + rs.length : Nat) : Int) ≤ room ∧ Both w wr' wr'.heap.size (fun _ => False) p q room sf.length (sf ++ rs) sf rs :=
            fun wr' sf' rs' h1 h2 => ⟨k + 1, hlt, by simp, sf', rs', h1, h2⟩
          generalize acts[k] = x at *
          clear hcell
          by_cases hbs : x.bs.length ≤ 10
          · have hbs' : ¬ (10 < (x.bs.length : Int)) := by omega
            obtain ⟨W3, hW3⟩ : ∃ W3, W3 = wr.alloc (.cells #[.int .i64 x.k, .int .i64 x.n, .slice ua x.bs.length uc] 43) := ⟨_, rfl⟩
            have hgr : Below wr.heap.size wr W3 := by rw [hW3]; exact (Below.refl _ _).alloc (Nat.le_refl _) _
            have hb3 := hbo.grow hgr
            have hh3 : W3.heap[wr.heap.size]? = some (.cells #[.int .i64 x.k, .int .i64 x.n, .slice ua x.bs.length uc] 43 (0, 0)) := by rw [hW3]; exact heap_alloc_new _ _
            have hsl3 := hsl1.grow hgr
            go_wp2
            rw [← hW3]
            generalize hn9 : wr.heap.size = n9 at *
            clear hbo hsl1 hW3 hgr hbel c0 c1 c2
            have d0 := cells_at hh3 0
            have d1 := cells_at hh3 1
            have d2 := cells_at hh3 2
            simp only [List.getElem?_toArray, List.getElem?_cons_zero, List.getElem?_cons_succ] at d0 d1 d2
            go_loopw [10] (fun i wr' => ∃ j : Nat, j ≤ x.bs.length ∧ i = .int .i64 j ∧ W3 = wr')
              (fun i _ => x.bs.length - (intOf i).toNat)
            case atStart => exact ⟨0, Nat.zero_le _, rfl, rfl⟩
            case round =>
              obtain ⟨j, hj, rfl, rfl⟩ := hrel
              by_cases hlt2 : j < x.bs.length
              · rcases hsl3 with ⟨h1, _⟩ | ⟨b2, off2, cap2, h1, h2⟩
                · rw [h1] at hlt2; simp at hlt2
                cases h1
                obtain ⟨_, u3, h3, h4⟩ := h2 j hlt2
                obtain ⟨a3, c3, rfl⟩ := h4.len
                clear h2 h4
                by_cases h200 : x.bs[j].length ≤ 200
                · have h200' : ¬ (200 < (x.bs[j].length : Int)) := by omega
                  go_wp2
                  exact ⟨⟨j + 1, by omega, by simp, trivial⟩, by simp only [intOf]; omega⟩
                · have h200' : 200 < (x.bs[j].length : Int) := by omega
                  go_wp2
                  go_ret
                  exact ⟨rfl, hb3.below⟩
              · have hb4 : Both w W3 W3.heap.size (fun k => k = n9) p q room sf.length (sf ++ rs) sf rs := (hb3.out fun k hk => .inr ⟨by omega, by rw [hk]; exact (Array.getElem?_eq_some_iff.1 hh3).1⟩).up
                clear hb3
                obtain ⟨kk, nn, bs⟩ := x
                dsimp only at hsl hsl3 hbs d0 d1 d2 hh3 hlt2 hj hbs' ⊢
                go_upto_region 20 with fail
                go_step
                go_step
                iterate 6 (first | go_upon | go_back | go_step)
                go_cut [11, 12, 13, 14] from 51 to 211 (fun s11 _ _ _ wx => s11 = .bool true ∧ ∃ sf' rs' : List UInt8, ((sf'.length + rs'.length : Nat) : Int) ≤ room ∧ Both w wx wx.heap.size (fun _ => False) p q room sf'.length (sf' ++ rs') sf' rs')
                case first =>
                  have hnl : sf.length + rs.length ≤ 1073741824 := by omega
                  have hnl2 : (sf ++ rs).length = sf.length + rs.length := List.length_append
                  by_cases k0 : kk = 0
                  · subst k0
                    go_wp2_with (go_at_call 9; refine (both_app hb4 hsl3 ?a1 hr1 ?a2).mono ?_)
                    case a1 => omega
                    case a2 => omega
                    rintro e W4 ⟨hcase, hk4⟩
                    have hh4 := (hk4 n9 rfl).trans hh3
                    have e2 := cells_at hh4 2
                    simp only [List.getElem?_toArray, List.getElem?_cons_zero, List.getElem?_cons_succ] at e2
                    clear hb4 hsl3 hk4
                    rcases hcase with ⟨f1, rfl, hb5⟩ | ⟨f1, rfl, hb5⟩
                    · have hsl5 := hsl.grow hb5.below
                      go_wp2_with (go_at_call 17; refine (both_appR hb5 hsl5 ?b1 hr1 ?b2).mono ?_)
                      case b1 => omega
                      case b2 => omega
                      rintro e W5 ⟨hcase, hk5⟩
                      rcases hcase with ⟨f2, rfl, hb6⟩ | ⟨f2, rfl, hb6⟩
                      · have hb7 := hb6.out (Y := fun _ => False) fun k hk => hk.elim
                        rw [List.append_assoc] at hb7
                        have hf7 : ((sf.length + (rs ++ bs.flatten).length : Nat) : Int) ≤ room := by rw [List.length_append]; exact (show sf.length + (rs.length + bs.flatten.length) = sf.length + rs.length + tot bs by unfold tot; omega) ▸ f2
                        go_wp2
                        go_meet
                        exact ⟨rfl, sf, rs ++ bs.flatten, hf7, hb7⟩
                      · omega
                    · have hsl5 := hsl.grow hb5.below
                      go_wp2_with (go_at_call 17; refine (both_appR hb5 hsl5 ?b3 hr1 ?b4).mono ?_)
                      case b3 => omega
                      case b4 => omega
                      rintro e W5 ⟨hcase, hk5⟩
                      rcases hcase with ⟨f2, rfl, hb6⟩ | ⟨f2, rfl, hb6⟩
                      · omega
                      · have hb7 := hb6.out (Y := fun _ => False) fun k hk => hk.elim
                        go_wp2
                        go_meet
                        exact ⟨rfl, sf, rs, hfit, hb7⟩
                  by_cases k1 : kk = 1
                  · subst k1
                    go_wp2_with (go_at_call 18; refine (crashR_b hb4 1073741824 hnl).mono ?_)
                    rintro e W4 ⟨⟨u, rfl⟩, hb5, hk4⟩
                    have ht : rs.take (max 1073741824 0 : Int).toNat = rs := List.take_of_length_le (by show rs.length ≤ 1073741824; omega)
                    rw [ht] at hb5
                    have hb5 := hb5.grow (Below.refl _ W4).drew
                    obtain ⟨sa, sc, hsc⟩ := hb5.safe
                    have hq5 := hb5.lt
                    clear hb4 hsl3 hk4 d0 d1 d2
                    go_upto_region 27 with fail
                    go_region_held_law (fun w' => w'.cell? ⟨q, 1, none⟩ = some (.slice sa (sf ++ rs).length sc))
                      (first | go_keep | assumption)
                      (first
                        | (go_at_call 10; refine Calls.mono (flush_b hb5) ?_; rintro e W5 ⟨rfl, hb6, hq6, _⟩; have hs6 := (World.cell?_of_block (a := ⟨q, 1, none⟩) hq6).trans hsc))
                    have hb7 := hb6.out (Y := fun _ => False) fun k hk => hk.elim
                    have hf7 : (((sf ++ rs).length + ([] : List UInt8).length : Nat) : Int) ≤ room := by rw [List.length_append]; exact hfit
                    go_wp2
                    go_meet
                    exact ⟨by simp, sf ++ rs, [], hf7, by rw [List.append_nil]; exact hb7⟩
                  by_cases k2 : kk = 2
                  · subst k2
                    go_wp2_with (go_at_call 18; refine (crashR_b hb4 nn hnl).mono ?_)
                    rintro e W4 ⟨⟨u, rfl⟩, hb5, hk4⟩
                    have hh4 := (hk4 n9 rfl).trans hh3
                    have e1 := cells_at (w := W4.drew) hh4 1
                    simp only [List.getElem?_toArray, List.getElem?_cons_zero, List.getElem?_cons_succ] at e1
                    have hb5 := hb5.grow (Below.refl _ W4).drew
                    obtain ⟨sa, sc, hsc⟩ := hb5.safe
                    have hst : stayN nn sf.length (sf ++ rs).length = ((sf ++ rs.take (max nn 0).toNat).length : Nat) := by
                      rw [List.length_append, List.length_append, List.length_take]; unfold stayN; omega
                    have htk : (sf ++ rs).take (sf ++ rs.take (max nn 0).toNat).length = sf ++ rs.take (max nn 0).toNat := by
                      rw [List.length_append, List.take_length_add_append, List.length_take]
                      rcases Nat.le_total (max nn 0).toNat rs.length with h | h
                      · rw [Nat.min_eq_left h]
                      · rw [Nat.min_eq_right h, List.take_of_length_le (Nat.le_refl _), List.take_of_length_le h]
                    have hfm : ((sf ++ rs.take (max nn 0).toNat).length : Int) ≤ room := by rw [List.length_append, List.length_take]; omega
                    clear hb4 hsl3 hk4 d0 d1 d2
                    generalize sf ++ rs.take (max nn 0).toNat = M at *
                    go_upto_region 30 with fail
                    go_region_held_law (fun w' => w'.cell? ⟨q, 1, none⟩ = some (.slice sa M.length sc) ∧ w'.cell? ⟨n9, 1, none⟩ = some (.int .i64 nn))
                      (first | go_keep | assumption)
                      (first
                        | (go_at_call 11; refine Calls.mono (crash_b hb5 nn ?_ ?_ ?_) ?_; (· omega); (· omega); (· omega); rw [hst, Int.toNat_natCast, htk]; rintro e W5 ⟨rfl, hb6, hq6, hn6⟩; have hs6 : W5.cell? ⟨q, 1, none⟩ = some (.slice sa M.length sc) ∧ W5.cell? ⟨n9, 1, none⟩ = some (.int .i64 nn) := ⟨(World.cell?_of_block (a := ⟨q, 1, none⟩) hq6).trans hsc, (World.cell?_of_block (a := ⟨n9, 1, none⟩) (hn6 n9 rfl)).trans e1⟩))
                    have hb7 := hb6.out (Y := fun _ => False) fun k hk => hk.elim
                    go_wp2
                    go_meet
                    exact ⟨by simp, M, [], by simpa using hfm, by rw [List.append_nil]; exact hb7⟩
                  by_cases k3 : kk = 3
                  · subst k3
                    by_cases hn : 0 ≤ nn ∧ nn ≤ ((sf ++ rs).length : Int)
                    · obtain ⟨hn0, hn1⟩ := hn
                      obtain ⟨m, rfl⟩ : ∃ m : Nat, nn = m := ⟨nn.toNat, by omega⟩
                      have hm : m ≤ (sf ++ rs).length := by omega
                      have hm1 : ¬ ((m : Int) < 0) := by omega
                      have hm2 : ¬ (((sf ++ rs).length : Int) < (m : Int)) := by omega
                      go_wp2_with (go_at_call 16; refine (cut_b hb4 (m : Int) hn0 hn1).mono ?_)
                      rintro e W4 rfl hb5 _ hh4
                      clear hb4 hsl3 d0 d1 d2
                      go_wp2_with (go_at_call 19; refine (all_b hb5 hnl).mono ?_)
                      rintro e W5 ⟨u, rfl, hu, hbl⟩
                      obtain ⟨sa, sc, rfl, hc1, hc2⟩ := ownsRow_len hu
                      have hb6 := hb5.grow hbl
                      have hh5 : W5.heap[n9]? = _ := (hbl.block n9 (Array.getElem?_eq_some_iff.1 hh4).1).trans hh4
                      have e1 := cells_at hh5 1
                      simp only [List.getElem?_toArray, List.getElem?_cons_zero, List.getElem?_cons_succ] at e1
                      obtain ⟨x1, x2, y1, y2, z1, z2⟩ := hb6.cells
                      have hb7 := ((hb6.out (Y := fun _ => False) fun k hk => hk.elim).cutR hu hm nofun).up
                      have hlt' : ((sf ++ rs).take m).length = m := by rw [List.length_take]; omega
                      have hsc : m ≤ sc := by omega
                      have hfm : ((((sf ++ rs).take m).length + ([] : List UInt8).length : Nat) : Int) ≤ room := by rw [hlt']; simp only [List.length_nil]; omega
                      try rw [Int.toNat_natCast] at hb7
                      have hb8 : ∃ sf' rs' : List UInt8, ((sf'.length + rs'.length : Nat) : Int) ≤ room ∧ Both w ((W5.setCell ⟨q, 1, none⟩ (.slice sa m sc)).setCell ⟨q, 2, none⟩ (.slice none 0 0)) ((W5.setCell ⟨q, 1, none⟩ (.slice sa m sc)).setCell ⟨q, 2, none⟩ (.slice none 0 0)).heap.size (fun _ => False) p q room sf'.length (sf' ++ rs') sf' rs' :=
                        ⟨(sf ++ rs).take m, [], hfm, by rw [hlt', List.append_nil]; exact hb7⟩
                      clear hb5 hb6 hb7 hu hh4
                      generalize sf ++ rs = L at *
                      go_wp2
                      go_meet
                      exact ⟨rfl, hb8⟩
                    · have hn' : nn < 0 ∨ ((sf ++ rs).length : Int) < nn := by omega
                      go_wp2_with (go_at_call 16; refine (cutE_b hb4 nn hn').mono ?_)
                      rintro e W4 ⟨rfl, rfl⟩
                      go_wp2_with (go_at_call 19; refine (all_b hb4 hnl).mono ?_)
                      rintro e W5 ⟨u, rfl, hu, hbl⟩
                      obtain ⟨sa, sc, rfl, hc1, hc2⟩ := ownsRow_len hu
                      have hb7 := ((hb4.grow hbl).out (Y := fun _ => False) fun k hk => hk.elim).up
                      have hh5 : W5.heap[n9]? = _ := (hbl.block n9 (Array.getElem?_eq_some_iff.1 hh3).1).trans hh3
                      have e1 := cells_at hh5 1
                      simp only [List.getElem?_toArray, List.getElem?_cons_zero, List.getElem?_cons_succ] at e1
                      clear hb4 hsl3 hu d0 d1 d2
                      have hb8 : ∃ sf' rs' : List UInt8, ((sf'.length + rs'.length : Nat) : Int) ≤ room ∧ Both w W5 W5.heap.size (fun _ => False) p q room sf'.length (sf' ++ rs') sf' rs' := ⟨sf, rs, hfit, hb7⟩
                      clear hb7
                      generalize sf ++ rs = L at *
                      rcases hn' with hn' | hn'
                      · go_wp2
                        go_meet
                        exact ⟨rfl, hb8⟩
                      · have hn0 : ¬ nn < 0 := by omega
                        go_wp2
                        go_meet
                        exact ⟨rfl, hb8⟩
                  · have hb7 := hb4.out (Y := fun _ => False) fun k hk => hk.elim
                    go_wp2
                    go_meet
                    exact ⟨rfl, sf, rs, hfit, hb7⟩
                case rest =>
                  obtain ⟨rfl, sf', rs', hfit', hb5⟩ := hcut
                  clear hb4 hsl3 hh3 d0 d1 d2
                  have hll : (sf' ++ rs').length ≤ 1073741824 := by rw [List.length_append]; omega
                  have hLr : ((sf' ++ rs').length : Int) ≤ room := by rw [List.length_append]; exact hfit'
                  go_wp2_with (go_at_call 12; refine (bytes_b hb5 hll).mono ?_)
                  rintro e w6 ⟨u, rfl, hu, hbb⟩
                  have hb6 := hb5.grow hbb
                  obtain ⟨ua2, uc2, rfl, hc1, hc2⟩ := ownsRow_len hu
                  have hsu := ownsRow_slB hu
                  obtain ⟨sa, sc, hsc⟩ := hb6.safe
                  have hq6 : q < w6.heap.size := by have := hb6.lt; omega
                  have hsz : wc.heap.size ≤ w6.heap.size := hbb.size
                  have fB : ∀ W, Below w6.heap.size w6 W → Both w W wc.heap.size (fun _ => False) p q room sf'.length (sf' ++ rs') sf' rs' := fun W h => hb6.grow (h.mono hsz)
                  have fS : ∀ W, Below w6.heap.size w6 W → (convert 28 9 (.slice ua2 (sf' ++ rs').length uc2)).run Try.prog W = .ok (.string ⟨(sf' ++ rs').toArray⟩) W ∧ W.cell? ⟨q, 1, none⟩ = some (.slice sa sf'.length sc) := fun W h => ⟨slB_conv (hsu.grow h), (h.cell (p := ⟨q, 1, none⟩) hq6).trans hsc⟩
                  have hW : Below w6.heap.size w6 w6.drew := (Below.refl _ _).drew
                  have hwr : IntKind.i64.wrap (room - ((sf' ++ rs').length : Int)) = room - ((sf' ++ rs').length : Int) := AL.wrap_i64 (by omega) (by omega)
                  generalize hL : sf' ++ rs' = L at *
                  go_upto_region 39 with fail
                  go_region_held_law (fun w' => (convert 28 9 (.slice ua2 L.length uc2)).run Try.prog w' = .ok (.string ⟨L.toArray⟩) w' ∧ w'.cell? ⟨q, 1, none⟩ = some (.slice sa sf'.length sc))
                    (exact fS _ hW)
                    (first
                      | (go_at_call 19; refine Calls.mono (all_b (fB _ hW) ?_) ?_; (· omega); rw [hL]; rintro e W ⟨v3, rfl, hv3, hbl⟩; have hcv := slB_conv (ownsRow_slB hv3); replace hW := hW.trans (hbl.mono hW.size))
                      | (go_at_call 13; refine Calls.mono (len_b (fB _ hW)) ?_; rintro e W ⟨rfl, rfl⟩)
                      | (go_at_call 15; refine Calls.mono (safe_b (fB _ hW)) ?_; rintro e W ⟨rfl, rfl⟩)
                      | (go_at_call 14; refine Calls.mono (left_b (fB _ hW) hLr hr1) ?_; rintro e W ⟨rfl, hbl⟩; replace hW := hW.trans (hbl.mono hW.size)))
                  have hu7 := ownsRow_grow hu fun k hk => hW.block k (hu.lt k hk).2
                  have hb7 := fB _ hW
                  clear hu hsu hb6 fS fB hW hb5 hbb hsc
                  go_wp2
                  go_loopw [16] (fun i wr2 => ∃ m : Nat, m ≤ L.length ∧ i = .int .i64 m ∧ ∃ xs : List Int, xs.length = L.length ∧ wr2.ownsRow wc.heap.size 5 1 (.slice ua2 L.length uc2) L.length (xs.map (Value.int .u8)) ∧ Both w wr2 wc.heap.size (fun _ => False) p q room sf'.length L sf' rs')
                    (fun i _ => L.length - (intOf i).toNat)
                  case atStart => exact ⟨0, Nat.zero_le _, rfl, L.map fun b => (b.toNat : Int), by simp, by simpa [bvs, Function.comp_def] using hu7, hb7⟩
                  case round =>
                    obtain ⟨m, hm, rfl, xs, hxs, hown, hb8⟩ := hrel
                    by_cases hlt3 : m < L.length
                    · obtain ⟨gu, rfl⟩ : ∃ gu, ua2 = some ⟨gu, 0, none⟩ := by
                        rcases hown.2 with ⟨h1, h2⟩ | ⟨g, cap, cur, h1, _⟩
                        · omega
                        · simp only [Value.slice.injEq] at h1; exact ⟨g, h1.1⟩
                      have hgu := (hown.lt gu rfl).1
                      have hcx : wr.cell? ⟨gu, m, none⟩ = some (.int .u8 (xs[m]'(by omega))) := by
                        rw [hown.cellAt m (by omega)]
                        simp [hxs, hlt3]
                      have hfx := hown.frozenAt m
                      have hst := fun y : Int => hown.stored m (.int .u8 y)
                      have i1 : (0 : Int) ≤ (m : Int) := by omega
                      have i2 : (m : Int) < (L.length : Int) := by omega
                      have hfin : ∀ y : Int, ∃ xs : List Int, xs.length = L.length ∧ (wr.setCell ⟨gu, m, none⟩ (.int .u8 y)).ownsRow wc.heap.size 5 1 (.slice (some ⟨gu, 0, none⟩) L.length uc2) L.length (xs.map (Value.int .u8)) ∧ Both w (wr.setCell ⟨gu, m, none⟩ (.int .u8 y)) wc.heap.size (fun _ => False) p q room sf'.length L sf' rs' := fun y =>
                        ⟨xs.set m y, by simpa using hxs, by rw [List.map_set]; exact (hst y).1, hb8.grow ((Below.refl _ _).setCell (p := ⟨gu, m, none⟩) hgu _)⟩
                      generalize xs[m]'(by omega) = y0 at hcx
                      clear hst hown hb8
                      go_wp2
                      exact ⟨⟨m + 1, by omega, by simp, hfin _⟩, by simp only [intOf]; omega⟩
                    · go_wp2
                      subst hL
                      go_roundw
                      case rel =>
                        exact hrel' _ sf' rs' hfit' hb8.up
                      case measure => simp only [intOf]; omega
          · have hbs' : 10 < (x.bs.length : Int) := by omega
            go_wp2
            go_ret
            exact ⟨rfl, hbel.alloc hbel.size _⟩
        · go_wp2
          go_ret
          exact ⟨rfl, hbo.below⟩
    · have hr : room < 0 ∨ 1073741824 < room := by omega
      go_wp2_with (go_at_call 8; refine (new_err room hr).mono ?_)
      rintro e w2 ⟨rfl, rfl⟩
      go_wp2
      all_goals go_ret
      all_goals exact ⟨rfl, hb1⟩
  · have hl' : 60 < (acts.length : Int) := by omega
    go_wp2_with (go_at_call 7; refine (awake_walk w1).mono ?_)
    rintro e w2 ⟨rfl, hb2⟩
    go_wp2
    go_ret
    exact ⟨rfl, hb1.trans (hb2.mono hb1.size)⟩
end Go.Proofs
namespace Go.Proofs.Ytekcekddahkajaa
open Go.AL
theorem acts_law (xs0 : List AVal) (h : FitsL [.int .i64, .slice (.agg [.int .i64, .int .i64, .slice (.slice (.int .u8) 1 1) 1 24]) 3 40] xs0) : ACall Try.prog 6 xs0 Sto.empty fun r _ => r = .bool true := by
  simp only [FitsL] at h
  obtain ⟨a, r, rfl, h1, a', r', rfl, h2, rfl⟩ := h
  obtain ⟨m, rfl, hm1, hm2⟩ := h1
  obtain ⟨l, rfl⟩ := fits_acts7 h2
  have key : PCall Try.prog 6 [.int .i64 m, .slice (av7 l) 3 .ro] (.bool true) := .ofBelow fun γ w vs hr => by
    obtain ⟨u, v, rfl, q2, q3⟩ := repL2 hr
    cases q2
    exact (acts_walk w m _ l (rep_acts q3)).mono fun e w' ⟨e1, e2⟩ => ⟨_, e1, .bool _ _, e2⟩
  exact (key Sto.empty).mono fun r τ h => h.1
end Go.Proofs.Ytekcekddahkajaa
