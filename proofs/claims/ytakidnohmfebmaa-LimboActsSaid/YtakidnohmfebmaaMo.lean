/-
  Seat 12 (limbo): the law LimboActs, walked with the kit.
-/
import Derived.Test.YtakidnohmfebmaaMn
import Derived.Test.YtakidnohmfebmaaLQ
import Derived.Deep.Cut
import Derived.Deep.CutRange
import Derived.Deep.DrawnRows
namespace Go.Proofs.Ytakidnohmfebmaa
open Go.AL
/-- What is done, as it lies. -/
def ActsQ (w : World) (v : Value) (l : List Act) : Prop :=
  (l = [] ∧ ∃ a, v = .slice a 0 0) ∨
  ∃ b off cap, v = .slice (some ⟨b, off, none⟩) l.length cap ∧ ∀ i (h : i < l.length), b < w.heap.size ∧ w.cell? ⟨b, off + i * 3, none⟩ = some (.int .i64 l[i].1) ∧ w.cell? ⟨b, off + i * 3 + 1, none⟩ = some (.int .i64 l[i].2.1) ∧
    ∃ u, w.cell? ⟨b, off + i * 3 + 2, none⟩ = some u ∧ Rep (Gh.top w) w false (.slice (kv l[i].2.2) 4 .ro) u
theorem rep_actsQ {γ : Gh} {w : World} {b : Bool} {l : List Act} {v : Value} {t : Tag} (h : Rep γ w b (.slice (av l) 3 t) v) : ActsQ w v l := by
  generalize he : av l = es at h
  cases h with
  | @sliceRow _ _ _ _ b off cap vs h1 h2 h3 h4 h5 h6 h7 =>
    subst he
    refine .inr ⟨b, off, cap, by simp, fun i hi => ?_⟩
    have g := fun j hj => flat_get actV 3 (fun _ => rfl) l i j hi hj
    obtain ⟨u0, hu0, hr0⟩ := h1.get (g 0 (by omega))
    obtain ⟨u1, hu1, hr1⟩ := h1.get (g 1 (by omega))
    obtain ⟨u2, hu2, hr2⟩ := h1.get (g 2 (by omega))
    cases hr0; cases hr1
    have hc0 := (h3 _ _ hu0).2
    exact ⟨World.block_lt_of_cell? _ _ hc0, hc0, (h3 _ _ hu1).2, u2, (h3 _ _ hu2).2, top_keys hr2⟩
  | sliceNil => exact .inl ⟨(by cases l with | nil => rfl | cons => cases he), _, rfl⟩
end Go.Proofs.Ytakidnohmfebmaa
namespace Go.Proofs
open Go.RowKit Go.Maps Go.AL Ytakidnohmfebmaa
set_option linter.unusedSimpArgs false
set_option linter.unusedVariables false
set_option maxHeartbeats 4000000
set_option maxRecDepth 1000000
theorem Ytakidnohmfebmaa.Both.drew {w0 w : World} {p q : Nat} {row : List Key} {m l : List (Key × Int)} {X : Nat → Prop} (h : Both w0 w p q row m l X) : Both w0 w.drew p q row m l X := h.grow ((Below.refl _ _).drew)
theorem cells12 {w : World} {b : Nat} {vs : Array Value} {T : TypeId} (h : w.heap[b]? = some (.cells vs T (0, 0))) (j : Nat) : w.cell? ⟨b, j, none⟩ = vs[j]? := by
  simp only [World.cell?, h]
  rfl
theorem keepA {w w' : World} {A : Nat} {o : Obj} (hb : Below w.heap.size w w') (h : w.heap[A]? = some o) : w'.heap[A]? = some o := (hb.block A (Array.getElem?_eq_some_iff.1 h).1).trans h
theorem tak12 {w0 w : World} {p q A k : Nat} {γ1 γ2 : Gh} {N1 N2 : Nat} {nn : Int} {row : List Key} {m : List (Key × Int)} {X : Nat → Prop} {o : Obj} (hI : LInv row m) (hfm : ∀ x ∈ m, KeyFit x.1 ∧ WFi x.2) (hl : row.length ≤ 10 * k + 10)
    (h : Two w0 γ1 (limS N1 (row.filter fun k => !Ytakidnohmfebmaa.below m nn k) (delAll (row.filter (Ytakidnohmfebmaa.below m nn)) m)) γ2 (refS N2 ((items row m).filter fun x => !decide (x.2 < nn))) w X) (h1 : γ1.obj (.out 1) = some p) (h2 : γ2.obj (.out 0) = some q) (hA : w.heap[A]? = some o) :
    ∃ (row' : List Key) (m' : List (Key × Int)), Both w0 w p q row' m' (items row' m') X ∧ LInv row' m' ∧ row'.length ≤ 10 * k + 10 ∧ (∀ x ∈ m', KeyFit x.1 ∧ WFi x.2) ∧ w.heap[A]? = some o := by
  rw [left_items hI] at h
  exact ⟨_, _, ⟨N1, γ1, N2, γ2, h, h1, h2⟩, hI.out _, Nat.le_trans (List.length_filter_le _ _) hl, del_fit _ hfm, hA⟩
def outK (row ks : List Key) (j : Nat) : List Key := row.filter fun k => !(ks.take j).contains k
theorem outK_zero (row ks : List Key) : outK row ks 0 = row := by simp [outK]
theorem outK_le (row ks : List Key) (j : Nat) : (outK row ks j).length ≤ row.length := List.length_filter_le _ _
theorem outK_nodup {row : List Key} (h : row.Nodup) (ks : List Key) (j : Nat) : (outK row ks j).Nodup := h.filter _
theorem outK_succ (row : List Key) {ks : List Key} {j : Nat} (h : j < ks.length) : outK row ks (j + 1) = (outK row ks j).filter fun y => !(y == ks[j]) := by
  unfold outK
  rw [List.take_succ_eq_append_getElem h, filter_snoc]
def goneK (row ks : List Key) : List Key := row.filter fun k => ks.contains k
theorem outK_all (row ks : List Key) : outK row ks ks.length = row.filter fun k => !ks.contains k := by unfold outK; rw [List.take_length]
theorem goneK_length (row ks : List Key) : (row.length : Int) - ((outK row ks ks.length).length : Int) = ((goneK row ks).length : Int) := by
  rw [outK_all]
  have := filter_split (fun k => ks.contains k) row
  unfold goneK
  omega
theorem Ytakidnohmfebmaa.Both.backK {w0 w : World} {p q : Nat} {row : List Key} {m l : List (Key × Int)} {X : Nat → Prop} (h : Both w0 w p q row m l X) {v : Value} {ks : List Key} (hv : Rep (Gh.top w0) w0 false (.slice (kv ks) 4 .ro) v) (hl : row.length ≤ 1000000000) (hk : ks.length ≤ 1000000000) :
    Calls Try.prog 12 #[lptr p, v] w fun x w' => x = .returned (.int .i64 ((goneK row ks).length : Int)) ∧
      Both w0 w' p q (outK row ks ks.length) (delAll (goneK row ks) m) l X ∧ (∀ b, X b → w'.heap[b]? = w.heap[b]?) ∧ w.heap.size ≤ w'.heap.size := by
  rw [outK_all]
  exact h.back hv hl hk
theorem bak12 {w0 w : World} {p q A k : Nat} {row : List Key} {m : List (Key × Int)} {ks : List Key} {X : Nat → Prop} {o : Obj} (hI : LInv row m) (hfm : ∀ x ∈ m, KeyFit x.1 ∧ WFi x.2) (hl : row.length ≤ 10 * k + 10)
    (h : Both w0 w p q (outK row ks ks.length) (delAll (goneK row ks) m) (items (outK row ks ks.length) m) X) (hA : w.heap[A]? = some o) :
    ∃ (row' : List Key) (m' : List (Key × Int)), Both w0 w p q row' m' (items row' m') X ∧ LInv row' m' ∧ row'.length ≤ 10 * k + 10 ∧ (∀ x ∈ m', KeyFit x.1 ∧ WFi x.2) ∧ w.heap[A]? = some o := by
  rw [outK_all] at h
  unfold goneK at h
  rw [out_items hI] at h
  exact ⟨_, _, h, hI.out _, Nat.le_trans (List.length_filter_le _ _) hl, del_fit _ hfm, hA⟩
structure EpRes (w0 w w' : World) (p q : Nat) (row : List Key) (m l : List (Key × Int)) (X : Nat → Prop) (v : Value) : Prop where
  ints : IntsP w' v (epl (items row m))
  few : (epl (items row m)).length ≤ 1000000
  both : Both w0 w' p q row m l (fun b => X b ∨ (w.heap.size ≤ b ∧ b < w'.heap.size))
  below : Below w.heap.size w w'
  fresh : ∀ g off n c, v = .slice (some ⟨g, off, none⟩) n c → w.heap.size ≤ g
theorem epochsE {w0 w : World} {p q : Nat} {row : List Key} {m l : List (Key × Int)} {X : Nat → Prop} (h : Both w0 w p q row m l X) (hI : LInv row m) (hf : ∀ x ∈ m, KeyFit x.1 ∧ WFi x.2) (hl : m.length ≤ 1000000) :
    Calls Try.prog 18 #[lptr p] w fun e w' => ∃ v, e = .returned v ∧ EpRes w0 w w' p q row m l X v := by
  refine (h.epochs hI hf hl).mono ?_
  rintro e w' ⟨v, xs, h1, h2, h3, h4, h5, h6, h7, h8⟩
  obtain rfl := epl_items hI h3 h4
  exact ⟨v, h1, h2, h5, h6, h7, h8⟩
structure EpResF (w0 w w' : World) (p q : Nat) (row : List Key) (m l : List (Key × Int)) (X : Nat → Prop) (v : Value) : Prop where
  ints : IntsP w' v (epl l)
  both : Both w0 w' p q row m l X
  same : ∀ b, X b → w'.heap[b]? = w.heap[b]?
  size : w.heap.size ≤ w'.heap.size
theorem epochsF {w0 w : World} {p q : Nat} {row : List Key} {m l : List (Key × Int)} {X : Nat → Prop} (h : Both w0 w p q row m l X) (hl : l.length ≤ 100000000) :
    Calls Try.prog 19 #[lptr q] w fun e w' => ∃ v, e = .returned v ∧ EpResF w0 w w' p q row m l X v := by
  refine (h.epochsR hl).mono ?_
  rintro e w' ⟨⟨u, h1, h2⟩, h3, h4, h5⟩
  exact ⟨u, h1, h2, h3, h4, h5⟩
theorem Ytakidnohmfebmaa.IntsP.shape {w : World} {v : Value} {l : List Int} (h : IntsP w v l) : ∃ a c, v = .slice a l.length c := by
  rcases h with ⟨rfl, a, rfl⟩ | ⟨b, off, cap, rfl, _⟩ <;> exact ⟨_, _, rfl⟩
theorem Ytakidnohmfebmaa.IntsP.drew {w : World} {v : Value} {l : List Int} (h : IntsP w v l) : IntsP w.drew v l := h.keep (Nat.le_refl _) fun _ _ _ _ _ _ => rfl
theorem limRow {w0 w : World} {p q : Nat} {row : List Key} {m l : List (Key × Int)} {X : Nat → Prop} (h : Both w0 w p q row m l X) : ∃ a c, w.cell? ⟨p, 0, none⟩ = some (.slice a row.length c) := by
  obtain ⟨N1, γ1, N2, γ2, h, h1, h2⟩ := h
  obtain ⟨p', hp', vs, T, hb, hr, _⟩ := h.l.inv.objc (i := .out 1) (x := .cells [.slice (kv row) 4 (.own N1), .map (.out 0)]) rfl (by simp)
  rw [h1] at hp'
  cases hp'
  obtain ⟨u, v, rfl, a1, a2⟩ := repL2 hr
  have c0 : w.cell? ⟨p, 0, none⟩ = some u := by simp [World.cell?, hb]
  generalize he : kv row = es at a1
  cases a1 with
  | sliceRow => subst he; exact ⟨_, _, by simpa using c0⟩
  | sliceNil =>
    have : row = [] := by cases row with | nil => rfl | cons => cases he
    subst this
    exact ⟨_, _, c0⟩
theorem lenS {w0 w : World} {p q : Nat} {row : List Key} {m l : List (Key × Int)} {X : Nat → Prop} (h : Both w0 w p q row m l X) :
    Calls Try.prog 10 #[lptr p] w fun e w' => e = .returned (.int .i64 row.length) ∧ w' = w := by
  obtain ⟨a, c, hc⟩ := limRow h
  go_enter Try.func10, Try.ntmps10
  go_wp2
  go_ret
  exact ⟨rfl, rfl⟩
theorem acts12_walk (w : World) (hA : Known w) (v0 : Value) (acts : List Ytakidnohmfebmaa.Act) (h0 : ActsQ w v0 acts) (hf : ∀ x ∈ acts, WFi x.2.1 ∧ ∀ k ∈ x.2.2, KeyFit k) :
    Calls Try.prog 5 #[v0] w fun e w' => e = .returned (.bool true) ∧ Below w.heap.size w w' := by
  have hl0 : ∃ a c, v0 = .slice a acts.length c := by
    rcases h0 with ⟨rfl, a, rfl⟩ | ⟨b, off, cap, rfl, _⟩ <;> exact ⟨_, _, rfl⟩
  obtain ⟨a0, c0, hv0⟩ := hl0
  rw [hv0]
  go_enter Try.func5, Try.ntmps5
  go_wp2_with (go_at_call 6; refine (awake12 w hA).mono ?_)
  rintro e w1 ⟨rfl, hb1⟩
  by_cases hk : acts.length ≤ 80
  · have hk' : ¬ (80 < (acts.length : Int)) := by omega
    go_wp2_with (go_at_call 7; refine (((Held.start w hA).grow hb1).call newK (.nil _)).mono ?_)
    rintro e w2 ⟨u, r, γ, τ, rfl, hr, ⟨rfl, rfl⟩, H, _, _, _⟩
    obtain ⟨p, hp, rfl⟩ : ∃ p, γ.obj (.out 1) = some p ∧ u = lptr p := by
      cases hr with
      | ptr hb _ => exact ⟨_, hb, rfl⟩
    have t1 := both_start hA H hp 44
    clear H hr hp
    obtain ⟨q, hq⟩ : ∃ q, q = w2.heap.size := ⟨_, rfl⟩
    go_wp2
    rw [← hq] at t1 ⊢
    clear hq
    go_loopw [5] (fun i wr => ∃ (k : Nat) (row : List Key) (m : List (Key × Int)), k ≤ acts.length ∧ i = .int .i64 k ∧ Both w wr p q row m (items row m) (fun _ => False) ∧ LInv row m ∧ row.length ≤ 10 * k ∧ ∀ x ∈ m, KeyFit x.1 ∧ WFi x.2)
      (fun i _ => acts.length - (intOf i).toNat)
    case atStart => exact ⟨0, [], [], Nat.zero_le _, rfl, t1, LInv.nil, Nat.le_refl _, fun x hx => by cases hx⟩
    case round =>
      obtain ⟨k, row, m, hk1, rfl, t2, hI, hlen, hfm⟩ := hrel
      by_cases hlt : k < acts.length
      · have hltI : (k : Int) < (acts.length : Int) := by omega
        have hfx := hf acts[k] (List.getElem_mem hlt)
        rcases h0 with ⟨rfl, _⟩ | ⟨b, off, cap, hv, hc⟩
        · simp at hlt
        rw [hv0] at hv
        cases hv
        obtain ⟨q0, q1, q2, u, q3, hu⟩ := hc k hlt
        have hb2 := t2.bel
        rw [← hb2.cell (p := ⟨b, _, none⟩) q0] at q1 q2 q3
        generalize acts[k] = x at *
        obtain ⟨kd, nn, ks⟩ := x
        dsimp only at q1 q2 q3 hu hfx
        have hus : ∃ a c, u = .slice a ks.length c := by
          rcases rep_keys hu with ⟨rfl, a, rfl⟩ | ⟨b, off, cap, rfl, _⟩ <;> exact ⟨_, _, rfl⟩
        obtain ⟨au, cu, rfl⟩ := hus
        clear hc
        obtain ⟨W1, hW1⟩ : ∃ W1, W1 = wr.alloc (.cells #[.int .i64 kd, .int .i64 nn, .slice au ks.length cu] 38) := ⟨_, rfl⟩
        have hbW := (Below.refl wr.heap.size wr).alloc (Nat.le_refl _) (.cells #[.int .i64 kd, .int .i64 nn, .slice au ks.length cu] 38)
        have t3 : Both w W1 p q row m (items row m) (fun b => b = wr.heap.size) := by
          rw [hW1]
          exact t2.out hbW.os hbW.tape hbW.output hbW.size (fun b hb _ => hbW.block b hb) fun b hb => .inr (by subst hb; simp)
        have hA1 : W1.heap[wr.heap.size]? = some (.cells #[.int .i64 kd, .int .i64 nn, .slice au ks.length cu] 38 (0, 0)) := by
          rw [hW1]; exact heap_alloc_new _ _
        go_upto_region 8 with fail
        rw [← hW1]
        clear hW1 hbW q1 q2 q3 t2 hb2
        generalize wr.heap.size = A at *
        have d0 := cells12 hA1 0
        have d2 := cells12 hA1 2
        simp only [List.getElem?_toArray, List.getElem?_cons_zero, List.getElem?_cons_succ] at d0 d2
        by_cases hk10 : ks.length ≤ 10
        · have hkI : ¬ (10 < (ks.length : Int)) := by omega
          go_upto_region 11 with fail
          go_step
          iterate 9 (first | go_upon | go_back | go_step)
          go_cut [7, 8, 9] from 28 to 188 (fun _ _ _ wx => ∃ (row' : List Key) (m' : List (Key × Int)), Both w wx p q row' m' (items row' m') (fun b => b = A) ∧ LInv row' m' ∧ row'.length ≤ 10 * k + 10 ∧ (∀ x ∈ m', KeyFit x.1 ∧ WFi x.2) ∧ wx.heap[A]? = some (.cells #[.int .i64 kd, .int .i64 nn, .slice au ks.length cu] 38 (0, 0)))
          case first =>
            by_cases k0 : kd = 0
            · subst k0
              have hr0 := LInv.retN nn ks (x := (0, row, m)) hI
              have hfr := keys_fit (row := row) (m := m) hfx.1 ks 0 row m hfx.2 hfm
              have d1 := cells12 hA1 1
              simp only [List.getElem?_toArray, List.getElem?_cons_zero, List.getElem?_cons_succ] at d1
              go_wp2_with (go_at_call 8; refine (t3.retire nn hu (by omega)).mono ?_)
              intro e W5
              try simp only [and_imp, forall_eq]
              rintro rfl t5 hX5 hs5
              have hA5 : W5.heap[A]? = some (.cells #[.int .i64 0, .int .i64 nn, .slice au ks.length cu] 38 (0, 0)) := by first | exact hX5 | exact hX5.trans hA1
              clear hX5 hs5 d0 d1 d2
              go_wp2
              go_loopw [8] (fun i wx => ∃ j : Nat, j ≤ ks.length ∧ i = .int .i64 j ∧ Both w wx p q (retN nn ks (0, row, m)).2.1 (retN nn ks (0, row, m)).2.2 (items (retN nn (ks.take j) (0, row, m)).2.1 (retN nn (ks.take j) (0, row, m)).2.2) (fun b => b = A) ∧ wx.heap[A]? = some (.cells #[.int .i64 0, .int .i64 nn, .slice au ks.length cu] 38 (0, 0)))
                (fun i _ => ks.length - (intOf i).toNat)
              case atStart => exact ⟨0, Nat.zero_le _, rfl, t5, hA5⟩
              case round =>
                obtain ⟨j, hj, rfl, t6, hA6⟩ := hrel
                by_cases hltj : j < ks.length
                · have hjI : (j : Int) < (ks.length : Int) := by omega
                  have hrj := LInv.retN nn (ks.take j) (x := (0, row, m)) hI
                  have hstep := ret_fold_take nn hI hltj
                  have hlj : (items (retN nn (ks.take j) (0, row, m)).2.1 (retN nn (ks.take j) (0, row, m)).2.2).length ≤ 100000000 := by
                    rw [items_length]
                    have := hrj.2
                    simp only [List.length_take] at this
                    omega
                  have hbj := t6.bel
                  have k0 := rep_keys hu
                  rcases k0 with ⟨rfl, _⟩ | ⟨b', off', cap', hvv, kk0⟩
                  · simp at hltj
                  cases hvv
                  obtain ⟨e0, e1, e2, e3, e4⟩ := kk0 j hltj
                  rw [← hbj.cell (p := ⟨b', _, none⟩) e0] at e1 e2 e3 e4
                  have d1 := cells12 hA6 1
                  have d2 := cells12 hA6 2
                  simp only [List.getElem?_toArray, List.getElem?_cons_zero, List.getElem?_cons_succ] at d1 d2
                  clear kk0 t5 hA5 hbj
                  have t6d := t6.drew
                  have hxj : ∀ W8, Both w W8 p q (retN nn ks (0, row, m)).2.1 (retN nn ks (0, row, m)).2.2 (retRl nn ks[j] (items (retN nn (ks.take j) (0, row, m)).2.1 (retN nn (ks.take j) (0, row, m)).2.2)) (fun b => b = A) → W8.heap[A]? = some (.cells #[.int .i64 0, .int .i64 nn, .slice (some ⟨b', off', none⟩) ks.length cu] 38 (0, 0)) →
                      ∃ j' : Nat, j' ≤ ks.length ∧ Value.int .i64 ((j : Int) + 1) = .int .i64 j' ∧ Both w W8 p q (retN nn ks (0, row, m)).2.1 (retN nn ks (0, row, m)).2.2 (items (retN nn (ks.take j') (0, row, m)).2.1 (retN nn (ks.take j') (0, row, m)).2.2) (fun b => b = A) ∧ W8.heap[A]? = some (.cells #[.int .i64 0, .int .i64 nn, .slice (some ⟨b', off', none⟩) ks.length cu] 38 (0, 0)) := fun W8 g1 g2 =>
                    ⟨j + 1, hltj, by simp, by rw [← hstep]; exact g1, g2⟩
                  have hj10 : (j : Int) ≤ 1000 := by omega
                  generalize ks[j] = x at *
                  go_wp2
                  go_region_with (go_at_call 13; refine (t6d.retireR nn x hlj).mono ?_; intro e W8; (try simp only [and_imp, forall_eq]); rintro rfl t8 hX8 hs8)
                  all_goals go_wp2
                  all_goals exact ⟨hxj _ t8 (by first | exact hX8 | exact hX8.trans hA6), by simp only [intOf]; omega⟩
                · have hjI : ¬ (j : Int) < (ks.length : Int) := by omega
                  rw [List.take_of_length_le (by omega)] at t6
                  have d2 := cells12 hA6 2
                  simp only [List.getElem?_toArray, List.getElem?_cons_zero, List.getElem?_cons_succ] at d2
                  go_wp2
                  go_meet
                  exact ⟨_, _, t6, hr0.1, by have h9 : _ ≤ row.length + ks.length := hr0.2; omega, hfr, hA6⟩
            by_cases k1 : kd = 1
            · subst k1
              have d1 := cells12 hA1 1
              simp only [List.getElem?_toArray, List.getElem?_cons_zero, List.getElem?_cons_succ] at d1
              obtain ⟨N1, γ1, N2, γ2, hT, ho1, ho2⟩ := t3
              have hTd := hT.grow ((Below.refl W1.heap.size W1).drew)
              have hAd : W1.drew.heap[A]? = some (.cells #[.int .i64 1, .int .i64 nn, .slice au ks.length cu] 38 (0, 0)) := hA1
              have hll : (items row m).length ≤ 100000000 := by rw [items_length]; omega
              have hrl : row.length ≤ 1000000000 := by omega
              have hgl : (row.filter (Ytakidnohmfebmaa.below m nn)).length ≤ 140737488351232 := Nat.le_trans (List.length_filter_le _ _) (by omega)
              have hsame : (row.filter (Ytakidnohmfebmaa.below m nn) == ((items row m).filter fun x => decide (x.2 < nn)).map (fun x : Key × Int => x.1)) = true := by
                rw [take_items]; simp
              clear d0 d2
              go_wp2
              go_region_with (first
                | (go_at_call 11; refine Calls.mono (Two.takeL (by assumption) (by assumption) nn hrl) ?_; rintro e Wa ⟨Na, γa, ua, rfl, hua, hTa, hoa, hXa, hEa⟩; have hAa : Wa.heap[A]? = some (.cells #[.int .i64 1, .int .i64 nn, .slice au ks.length cu] 38 (0, 0)) := (hXa A rfl).trans (by assumption); have dda := cells12 hAa 1; simp only [List.getElem?_toArray, List.getElem?_cons_zero, List.getElem?_cons_succ] at dda; (try have hub2 := hub.mono (hEa false)))
                | (go_at_call 15; refine Calls.mono (Two.takeQ (by assumption) (by assumption) nn hll) ?_; rintro e Wb ⟨Nb, γb, ub, rfl, hub, hTb, hob, hXb, hEb⟩; have hAb : Wb.heap[A]? = some (.cells #[.int .i64 1, .int .i64 nn, .slice au ks.length cu] 38 (0, 0)) := (hXb A rfl).trans (by assumption); have ddb := cells12 hAb 1; simp only [List.getElem?_toArray, List.getElem?_cons_zero, List.getElem?_cons_succ] at ddb; (try have hua2 := hua.mono (hEb false)))
                | (go_at_call 14; (first | refine Calls.mono (same_w hTb.known hua2 hub hgl) ?_ | refine Calls.mono (same_w hTa.known hua hub2 hgl) ?_); rintro e Wc ⟨rfl, hBc⟩; simp only [hsame]))
              all_goals go_wp2
              all_goals go_meet
              all_goals first
                | exact tak12 hI hfm (by omega) (hTb.grow hBc) hoa hob (keepA hBc hAb)
                | exact tak12 hI hfm (by omega) (hTa.grow hBc) hoa hob (keepA hBc hAa)
            by_cases k2 : kd = 2
            · subst k2
              clear d0 d2
              go_wp2
              go_loopw [7, 9] (fun n i wx => ∃ j : Nat, j ≤ ks.length ∧ i = .int .i64 j ∧ n = .int .i64 ((row.length : Int) - ((outK row ks j).length : Int)) ∧ Both w wx p q row m (items (outK row ks j) m) (fun b => b = A) ∧ wx.heap[A]? = some (.cells #[.int .i64 2, .int .i64 nn, .slice au ks.length cu] 38 (0, 0)))
                (fun _ i _ => ks.length - (intOf i).toNat)
              case atStart => exact ⟨0, Nat.zero_le _, rfl, by rw [outK_zero]; simp, by rw [outK_zero]; exact t3, hA1⟩
              case round =>
                obtain ⟨j, hj, rfl, rfl, t6, hA6⟩ := hrel
                have ho1 := outK_le row ks j
                by_cases hltj : j < ks.length
                · have hjI : (j : Int) < (ks.length : Int) := by omega
                  have hlj : (items (outK row ks j) m).length ≤ 100000000 := by rw [items_length]; omega
                  have hbj := t6.bel
                  rcases rep_keys hu with ⟨rfl, _⟩ | ⟨b', off', cap', hvv, kk0⟩
                  · simp at hltj
                  cases hvv
                  obtain ⟨e0, e1, e2, e3, e4⟩ := kk0 j hltj
                  rw [← hbj.cell (p := ⟨b', _, none⟩) e0] at e1 e2 e3 e4
                  have d1 := cells12 hA6 1
                  have d2 := cells12 hA6 2
                  simp only [List.getElem?_toArray, List.getElem?_cons_zero, List.getElem?_cons_succ] at d1 d2
                  obtain ⟨s1, s2, s3⟩ := back_items m (outK_nodup hI.rowN ks j) ks[j]
                  have s4 := outK_succ row hltj
                  rw [← s4] at s1 s2
                  have ho2 := outK_le row ks (j + 1)
                  have hj10 : (j : Int) ≤ 1000 := by omega
                  have hrow : (row.length : Int) ≤ 100000 := by omega
                  have hxj : ∀ W8, Both w W8 p q row m (backRl ks[j] (items (outK row ks j) m)) (fun b => b = A) → W8.heap[A]? = some (.cells #[.int .i64 2, .int .i64 nn, .slice (some ⟨b', off', none⟩) ks.length cu] 38 (0, 0)) →
                      ∃ j' : Nat, j' ≤ ks.length ∧ Value.int .i64 ((j : Int) + 1) = .int .i64 j' ∧ Value.int .i64 ((row.length : Int) - ((outK row ks j).length : Int) + backRn ks[j] (items (outK row ks j) m)) = .int .i64 ((row.length : Int) - ((outK row ks j').length : Int)) ∧ Both w W8 p q row m (items (outK row ks j') m) (fun b => b = A) ∧ W8.heap[A]? = some (.cells #[.int .i64 2, .int .i64 nn, .slice (some ⟨b', off', none⟩) ks.length cu] 38 (0, 0)) := fun W8 g1 g2 =>
                    ⟨j + 1, hltj, by simp, by congr 1; omega, by rw [← s1]; exact g1, g2⟩
                  clear kk0 hbj
                  generalize ks[j] = x at *
                  generalize hbn : backRn x (items (outK row ks j) m) = B at *
                  generalize hOO : ((outK row ks j).length : Int) = O at *
                  have hO2 : 0 ≤ O ∧ O ≤ row.length := by omega
                  have hB2 : B ≤ 100000 := by omega
                  go_wp2_with (go_at_call 16; refine (t6.backR x hlj).mono ?_)
                  intro e W8
                  try simp only [and_imp, forall_eq]
                  rw [hbn]
                  rintro rfl t8 hX8 hs8
                  have hA8 : W8.heap[A]? = some (.cells #[.int .i64 2, .int .i64 nn, .slice (some ⟨b', off', none⟩) ks.length cu] 38 (0, 0)) := by first | exact hX8 | exact hX8.trans hA6
                  go_wp2
                  exact ⟨hxj _ t8 hA8, by simp only [intOf]; omega⟩
                · have hjI : ¬ (j : Int) < (ks.length : Int) := by omega
                  have hjl : j = ks.length := by omega
                  subst hjl
                  have hcnt := goneK_length row ks
                  rw [hcnt]
                  have d2 := cells12 hA6 2
                  simp only [List.getElem?_toArray, List.getElem?_cons_zero, List.getElem?_cons_succ] at d2
                  have hfin := fun W9 => @bak12 w W9 p q A k row m ks (fun b => b = A) (.cells #[.int .i64 2, .int .i64 nn, .slice au ks.length cu] 38 (0, 0)) hI hfm (by omega)
                  go_wp2_with (go_at_call 12; refine (t6.backK hu (by omega) (by omega)).mono ?_)
                  intro e W9
                  try simp only [and_imp, forall_eq]
                  rintro rfl t9 hX9 hs9
                  have hA9 : W9.heap[A]? = some (.cells #[.int .i64 2, .int .i64 nn, .slice au ks.length cu] 38 (0, 0)) := by first | exact hX9 | exact hX9.trans hA6
                  have hz := hfin W9 t9 hA9
                  generalize ((goneK row ks).length : Int) = Z at *
                  go_wp2
                  go_meet
                  exact hz
            go_wp2
            go_meet
            exact ⟨row, m, t3, hI, by omega, hfm, hA1⟩
          case rest =>
            obtain ⟨row', m', t4, hI', hlen', hfm', hA4⟩ := hcut
            clear t3 hA1 d0 d2 hI hlen hfm
            have hml : m'.length ≤ 1000000 := by have := LInv.len hI'; omega
            have hll : (items row' m').length ≤ 100000000 := by rw [items_length]; omega
            go_wp2
            go_loopw [10] (fun i wx => ∃ j : Nat, j ≤ ks.length ∧ i = .int .i64 j ∧ Both w wx p q row' m' (items row' m') (fun b => b = A) ∧ wx.heap[A]? = some (.cells #[.int .i64 kd, .int .i64 nn, .slice au ks.length cu] 38 (0, 0)))
              (fun i _ => ks.length - (intOf i).toNat)
            case atStart => exact ⟨0, Nat.zero_le _, rfl, t4, hA4⟩
            case round =>
              obtain ⟨j, hj, rfl, t6, hA6⟩ := hrel
              by_cases hltj : j < ks.length
              · have hjI : (j : Int) < (ks.length : Int) := by omega
                have hj10 : (j : Int) ≤ 1000 := by omega
                have hbj := t6.bel
                rcases rep_keys hu with ⟨rfl, _⟩ | ⟨b', off', cap', hvv, kk0⟩
                · simp at hltj
                cases hvv
                obtain ⟨e0, e1, e2, e3, e4⟩ := kk0 j hltj
                generalize ks[j] = x at *
                have hcW : ∀ W, Below w.heap.size w W → W.cell? ⟨b', off' + j * 4, none⟩ = some (.int .i64 x.1) ∧ W.cell? ⟨b', off' + j * 4 + 1, none⟩ = some (.int .i64 x.2.1) ∧
                    W.cell? ⟨b', off' + j * 4 + 2, none⟩ = some (.int .i64 x.2.2.1) ∧ W.cell? ⟨b', off' + j * 4 + 3, none⟩ = some (.string ⟨x.2.2.2.toArray⟩) := fun W hW =>
                  ⟨(hW.cell (p := ⟨b', _, none⟩) e0).trans e1, (hW.cell (p := ⟨b', _, none⟩) e0).trans e2, (hW.cell (p := ⟨b', _, none⟩) e0).trans e3, (hW.cell (p := ⟨b', _, none⟩) e0).trans e4⟩
                clear kk0 e1 e2 e3 e4
                have hxj : ∀ W8, Both w W8 p q row' m' (items row' m') (fun b => b = A) → W8.heap[A]? = some (.cells #[.int .i64 kd, .int .i64 nn, .slice (some ⟨b', off', none⟩) ks.length cu] 38 (0, 0)) →
                    ∃ j' : Nat, j' ≤ ks.length ∧ Value.int .i64 ((j : Int) + 1) = .int .i64 j' ∧ Both w W8 p q row' m' (items row' m') (fun b => b = A) ∧ W8.heap[A]? = some (.cells #[.int .i64 kd, .int .i64 nn, .slice (some ⟨b', off', none⟩) ks.length cu] 38 (0, 0)) := fun W8 g1 g2 => ⟨j + 1, hltj, by simp, g1, g2⟩
                obtain ⟨f1, f2, f3, f4⟩ := hcW _ hbj
                have d2 := cells12 hA6 2
                simp only [List.getElem?_toArray, List.getElem?_cons_zero, List.getElem?_cons_succ] at d2
                go_wp2_with (go_at_call 9; refine (t6.epoch x).mono ?_)
                intro e W7
                try simp only [and_imp, forall_eq]
                rintro rfl t7 hX7 hs7
                have hA7 : W7.heap[A]? = some (.cells #[.int .i64 kd, .int .i64 nn, .slice (some ⟨b', off', none⟩) ks.length cu] 38 (0, 0)) := by first | exact hX7 | exact hX7.trans hA6
                obtain ⟨f5, f6, f7, f8⟩ := hcW _ t7.bel
                have d3 := cells12 hA7 2
                simp only [List.getElem?_toArray, List.getElem?_cons_zero, List.getElem?_cons_succ] at d3
                clear hX7 hs7 t6 hA6 d2 f1 f2 f3 f4 hbj t4 hA4
                go_wp2_with (go_at_call 17; refine (t7.findR x hll).mono ?_)
                intro e W8
                try simp only [and_imp, forall_eq]
                rintro rfl t8 hX8 hs8
                have hA8 : W8.heap[A]? = some (.cells #[.int .i64 kd, .int .i64 nn, .slice (some ⟨b', off', none⟩) ks.length cu] 38 (0, 0)) := by first | exact hX8 | exact hX8.trans hA7
                have hnext := hxj _ t8 hA8
                clear hX8 hs8 t7 hA7 d3 f5 f6 f7 f8 hxj
                cases ho : epochOf m' x with
                | none =>
                  have hx : x ∉ row' := fun hx => by have := (hI'.ofSome x).1 hx; rw [ho] at this; cases this
                  have hfn : findN (items row' m') x = -1 := by unfold findN; rw [find_out hx]
                  rw [hfn]
                  simp only [Option.getD_none, Option.isSome_none]
                  clear hcW t8 hA8
                  go_wp2
                  exact ⟨hnext, by simp only [intOf]; omega⟩
                | some y =>
                  have hx : x ∈ row' := (hI'.ofSome x).2 (by rw [ho]; rfl)
                  obtain ⟨i, hi, hfi, hxi⟩ := find_in (m := m') hI'.rowN hx
                  have hfn : findN (items row' m') x = (i : Int) := by unfold findN; rw [hfi]
                  obtain ⟨ra, rc, r1, r2⟩ := t8.cellsR
                  obtain ⟨rg, roff, rfl, r3⟩ := r2 i (by rw [items_length]; exact hi)
                  rw [items_get _ _ _ hi, hxi, ho, Option.getD_some] at r3
                  rw [items_length] at r1
                  dsimp only at r3
                  rw [hfn]
                  simp only [Option.getD_some, Option.isSome_some]
                  have hi1 : (0 : Int) ≤ (i : Int) := by omega
                  have hi2 : (i : Int) < (row'.length : Int) := by omega
                  clear hcW t8 hA8 r2
                  go_wp2
                  exact ⟨hnext, by simp only [intOf]; omega⟩
              · have hjI : ¬ (j : Int) < (ks.length : Int) := by omega
                have d2 := cells12 hA6 2
                simp only [List.getElem?_toArray, List.getElem?_cons_zero, List.getElem?_cons_succ] at d2
                clear t4 hA4
                go_wp2_with (go_at_call 18; refine (epochsE t6 hI' hfm' hml).mono ?_)
                intro e W7
                try simp only [and_imp, forall_exists_index]
                rintro v7 rfl hE7
                obtain ⟨hxs, hx3, t7, hb7, hv7⟩ := hE7
                go_wp2_with (go_at_call 19; refine (epochsF t7 hll).mono ?_)
                intro e W8
                try simp only [and_imp, forall_exists_index]
                rintro u8 rfl hF8
                obtain ⟨hys, t8, hX8, hs8⟩ := hF8
                have hxs8 := hxs.keep hs8 fun bb off n c h1 h2 => hX8 bb (.inr ⟨hv7 _ _ _ _ h1, h2⟩)
                have t9 : Both w W8 p q row' m' (items row' m') (fun _ => False) := t8.less fun b h => h.elim
                clear hxs hX8 hs8 t7 t8 hb7 hv7 t6 hA6 d2
                generalize hel : epl (items row' m') = es at *
                obtain ⟨xa, xc, rfl⟩ := hxs8.shape
                obtain ⟨ya, yc, rfl⟩ := hys.shape
                have t9d := t9.drew
                obtain ⟨ra, rc, r1, _⟩ := t9d.cellsR
                rw [items_length] at r1
                have hxd := hxs8.drew
                have hyd := hys.drew
                have hLen := lenS t9d
                clear t9 hxs8 hys hel
                go_wp2
                go_region_held_law (fun w' => w'.cell? ⟨q, 0, none⟩ = some (.slice ra row'.length rc))
                  (first | go_keep | assumption)
                  (first
                    | (go_at_call 10; refine Calls.mono hLen ?_; rintro e W ⟨rfl, rfl⟩))
                clear r1 hLen
                go_wp2
                go_loopw [16] (fun i wx => ∃ j : Nat, j ≤ es.length ∧ i = .int .i64 j ∧ Both w wx p q row' m' (items row' m') (fun _ => False) ∧ IntsP wx (.slice xa es.length xc) es ∧ IntsP wx (.slice ya es.length yc) es)
                  (fun i _ => es.length - (intOf i).toNat)
                case atStart => exact ⟨0, Nat.zero_le _, rfl, t9d, hxd, hyd⟩
                case round =>
                  obtain ⟨z, hz, rfl, tz, hxz, hyz⟩ := hrel
                  by_cases hltz : z < es.length
                  · have hzI : (z : Int) < (es.length : Int) := by omega
                    have hz0 : (0 : Int) ≤ (z : Int) := by omega
                    have hnz : ∀ W9, Both w W9 p q row' m' (items row' m') (fun _ => False) → IntsP W9 (.slice xa es.length xc) es → IntsP W9 (.slice ya es.length yc) es →
                        ∃ j' : Nat, j' ≤ es.length ∧ Value.int .i64 ((z : Int) + 1) = .int .i64 j' ∧ Both w W9 p q row' m' (items row' m') (fun _ => False) ∧ IntsP W9 (.slice xa es.length xc) es ∧ IntsP W9 (.slice ya es.length yc) es := fun W9 g1 g2 g3 => ⟨z + 1, hltz, by simp, g1, g2, g3⟩
                    have hnz2 := hnz _ tz.drew hxz.drew hyz.drew
                    rcases hxz with ⟨rfl, _⟩ | ⟨bx, ox, cx, hvx, kx⟩
                    · simp at hltz
                    rcases hyz with ⟨rfl, _⟩ | ⟨by', oy, cy, hvy, ky⟩
                    · simp at hltz
                    cases hvx
                    cases hvy
                    obtain ⟨-, x1⟩ := kx z hltz
                    obtain ⟨-, y1⟩ := ky z hltz
                    generalize es[z] = ez at *
                    clear kx ky hnz tz t9d hxd hyd
                    go_wp2
                    go_region
                    go_wp2
                    exact ⟨hnz2, by simp only [intOf]; omega⟩
                  · have hzI : ¬ (z : Int) < (es.length : Int) := by omega
                    go_wp2
                    go_roundw
                    case rel => exact ⟨k + 1, row', m', by omega, by simp, tz, hI', by omega, hfm'⟩
                    case measure => simp only [intOf]; omega
        · have hkI : 10 < (ks.length : Int) := by omega
          go_wp2
          go_ret
          exact ⟨rfl, t3.bel⟩
      · have hltI : ¬ (k : Int) < (acts.length : Int) := by omega
        go_wp2
        go_ret
        exact ⟨rfl, t2.bel⟩
  · have hk' : 80 < (acts.length : Int) := by omega
    go_wp2_with (go_at_call 6; refine (awake12 w1 (hA.below hb1)).mono ?_)
    rintro e w2 ⟨rfl, hb2⟩
    go_wp2
    go_ret
    exact ⟨rfl, hb1.trans (hb2.mono hb1.size)⟩
end Go.Proofs
namespace Go.Proofs.Ytakidnohmfebmaa
open Go.AL
set_option linter.unusedSimpArgs false
set_option linter.unusedVariables false
theorem wfi12 {x : Int} (h0 : IntKind.i64.min ≤ x) (h1 : x ≤ IntKind.i64.max) : WFi x := by
  unfold WFi Lit.wf
  simp [IntKind.wrap]
  have : IntKind.i64.min = -9223372036854775808 := rfl
  have : IntKind.i64.max = 9223372036854775807 := rfl
  omega
theorem fits_keyF {a : AVal} (h : Fits tyKey a) : ∃ k : Key, a = keyV k ∧ KeyFit k := by
  simp only [tyKey, Fits, FitsL] at h
  obtain ⟨cs, rfl, a1, r1, rfl, ⟨n1, rfl, l1, u1⟩, a2, r2, rfl, ⟨n2, rfl, l2, u2⟩, a3, r3, rfl, ⟨n3, rfl, l3, u3⟩, a4, r4, rfl, ⟨s, rfl, l4⟩, rfl⟩ := h
  exact ⟨(n1, n2, n3, s), rfl, wfi12 l1 u1, wfi12 l2 u2, wfi12 l3 u3, by show s.length ≤ maxLen; unfold maxLen; omega⟩
theorem fits_keysF {b : Nat} {a : AVal} (h : Fits (.slice tyKey 4 b) a) : ∃ ks : List Key, a = .slice (kv ks) 4 .ro ∧ ∀ k ∈ ks, KeyFit k := by
  obtain ⟨es, rfl, h1, h2⟩ := h
  obtain ⟨ks, rfl, hk⟩ := map_of (f := keyV) (P := KeyFit) fun e he => by
    obtain ⟨k, rfl, hk⟩ := fits_keyF (h2 e he)
    exact ⟨k, rfl, hk⟩
  exact ⟨ks, rfl, hk⟩
theorem fits_actF {a : AVal} (h : Fits (.agg [.int .i64, .int .i64, .slice tyKey 4 40]) a) : ∃ x : Act, a = actV x ∧ WFi x.2.1 ∧ ∀ k ∈ x.2.2, KeyFit k := by
  obtain ⟨cs, rfl, h⟩ := h
  simp only [FitsL] at h
  obtain ⟨a1, r1, rfl, ⟨n1, rfl, _⟩, a2, r2, rfl, ⟨n2, rfl, l2, u2⟩, a3, r3, rfl, h3, rfl⟩ := h
  obtain ⟨ks, rfl, hk⟩ := fits_keysF h3
  exact ⟨(n1, n2, ks), rfl, wfi12 l2 u2, hk⟩
theorem acts_law (xs0 : List AVal) (h : FitsL [.slice (.agg [.int .i64, .int .i64, .slice (.agg [.int .i64, .int .i64, .int .i64, .str]) 4 40]) 3 40] xs0) : ACall Try.prog 5 xs0 Sto.empty fun r _ => r = .bool true := by
  unfold FitsL at h
  obtain ⟨a, r, rfl, h1, h2⟩ := h
  simp only [FitsL] at h2
  subst h2
  obtain ⟨es, rfl, g1, g2⟩ := h1
  obtain ⟨acts, rfl, hk⟩ := map_of (f := actV) (P := fun x : Act => WFi x.2.1 ∧ ∀ k ∈ x.2.2, KeyFit k) fun e he => by
    obtain ⟨x, rfl, hx⟩ := fits_actF (g2 e he)
    exact ⟨x, rfl, hx⟩
  have key : PCall Try.prog 5 [.slice (av acts) 3 .ro] (.bool true) := .ofBelowK fun γ w vs hA hr => by
    obtain ⟨u, rfl, q1⟩ := repL1 hr
    exact (acts12_walk w hA u acts (rep_actsQ q1) hk).mono fun e w' ⟨e1, e2⟩ => ⟨_, e1, .bool _ _, e2⟩
  exact (key Sto.empty).mono fun r τ h => h.1
end Go.Proofs.Ytakidnohmfebmaa
