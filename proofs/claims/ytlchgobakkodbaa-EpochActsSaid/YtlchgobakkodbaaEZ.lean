/-
  Seat 06 (epoch): Refresh; the table of a law's own; the document's example; the law EpochWaits.
-/
import Derived.Test.YtlchgobakkodbaaEY
namespace Go.Proofs
open Go.RowKit Go.Maps Go.Shelf Ytlchgobakkodbaa
set_option linter.unusedSimpArgs false
set_option linter.unusedVariables false
set_option maxHeartbeats 4000000
set_option maxRecDepth 1000000
theorem refresh_err {w : World} {p b C : Nat} {s g : Int} {f : Int → Option Int} (h : Tab w p b s g f C) (x : Int) (hx : WFi x) (he : isV s f x true 51 ≠ 0) :
    Calls Try.prog 14 #[.pointer (some ⟨p, 0, none⟩), .int .i64 x] w fun e w' => e = .returned (.tuple #[.int .i64 0, .int .i64 (isV s f x true 51)]) ∧ w' = w := by
  have hw := leave_err h x hx he
  generalize isV s f x true 51 = v at *
  go_enter Try.func14, Try.ntmps14
  go_wp2_with (go_at_call 12; refine hw.mono ?_)
  rintro e W ⟨rfl, rfl⟩
  go_wp2
  go_ret2
  exact ⟨rfl, rfl⟩
theorem refresh_ok {w : World} {p b C : Nat} {s g : Int} {f : Int → Option Int} (h : Tab w p b s g f C) (hC : C ≤ 100000) (x : Int) (hx : WFi x) (hg : WFi g) (he : isV s f x true 51 = 0) :
    Calls Try.prog 14 #[.pointer (some ⟨p, 0, none⟩), .int .i64 x] w fun e w' => e = .returned (.tuple #[.int .i64 g, .int .i64 0]) ∧ Tab w' p b s g (updI f x (some g)) (C + 1) ∧ ChgT p b w w' := by
  have hw := leave_ok h x hx he
  have he2 : isV s (updI f x none) x false 31 = 0 := by
    unfold isV at he ⊢
    split at he
    · omega
    · rename_i hno
      rw [if_neg hno, updI_same]
      rfl
  have hup : updI (updI f x none) x (some g) = updI f x (some g) := by
    funext y
    unfold updI
    split <;> rfl
  go_enter Try.func14, Try.ntmps14
  go_wp2_with (go_at_call 12; refine hw.mono ?_)
  rintro e W ⟨rfl, hT, hch⟩
  go_wp2_with (go_at_call 9; refine (enter_ok hT hC x hx hg he2).mono ?_)
  rintro e W2 ⟨rfl, hT2, hch2⟩
  rw [hup] at hT2
  go_wp2
  go_ret2
  exact ⟨rfl, hT2, hch.trans hch2⟩
/-- A table that was made since the world w0. -/
def Tk (w0 W : World) (p b : Nat) (s g : Int) (f : Int → Option Int) (C : Nat) : Prop := Tab W p b s g f C ∧ w0.heap.size ≤ p ∧ w0.heap.size ≤ b ∧ Below w0.heap.size w0 W
theorem Tk.go {w0 W W' : World} {p b C C' : Nat} {s g s' g' : Int} {f f' : Int → Option Int} (h : Tk w0 W p b s g f C) (hc : ChgT p b W W') (ht : Tab W' p b s' g' f' C') : Tk w0 W' p b s' g' f' C' :=
  ⟨ht, h.2.1, h.2.2.1, h.2.2.2.trans (hc.below h.2.1 h.2.2.1 h.2.2.2.size)⟩
theorem Tk.grow {w0 W W' : World} {p b C : Nat} {s g : Int} {f : Int → Option Int} (h : Tk w0 W p b s g f C) (hb : Below W.heap.size W W') : Tk w0 W' p b s g f C := h.go (.of_below hb) (h.1.grow hb)
theorem Tk.below {w0 W : World} {p b C : Nat} {s g : Int} {f : Int → Option Int} (h : Tk w0 W p b s g f C) : Below w0.heap.size w0 W := h.2.2.2
theorem wfi {x : Int} (h0 : -9223372036854775808 ≤ x) (h1 : x ≤ 9223372036854775807) : WFi x := by
  unfold WFi Lit.wf
  simp [IntKind.wrap]
  have : IntKind.i64.min = -9223372036854775808 := rfl
  omega
theorem enter_k {w0 W : World} {p b C : Nat} {s g : Int} {f : Int → Option Int} (h : Tk w0 W p b s g f C) (hC : C ≤ 100000) (x : Int) (hx : WFi x) (hg : WFi g) (he : isV s f x false 31 = 0) :
    Calls Try.prog 9 #[.pointer (some ⟨p, 0, none⟩), .int .i64 x] W fun e w' => e = .returned (.tuple #[.int .i64 g, .int .i64 0]) ∧ Tk w0 w' p b s g (updI f x (some g)) (C + 1) :=
  (enter_ok h.1 hC x hx hg he).mono fun e w' ⟨e1, e2, e3⟩ => ⟨e1, h.go e3 e2⟩
theorem leave_k {w0 W : World} {p b C : Nat} {s g : Int} {f : Int → Option Int} (h : Tk w0 W p b s g f C) (x : Int) (hx : WFi x) (he : isV s f x true 51 = 0) :
    Calls Try.prog 12 #[.pointer (some ⟨p, 0, none⟩), .int .i64 x] W fun e w' => e = .returned (.int .i64 0) ∧ Tk w0 w' p b s g (updI f x none) C :=
  (leave_ok h.1 x hx he).mono fun e w' ⟨e1, e2, e3⟩ => ⟨e1, h.go e3 e2⟩
theorem refresh_k {w0 W : World} {p b C : Nat} {s g : Int} {f : Int → Option Int} (h : Tk w0 W p b s g f C) (hC : C ≤ 100000) (x : Int) (hx : WFi x) (hg : WFi g) (he : isV s f x true 51 = 0) :
    Calls Try.prog 14 #[.pointer (some ⟨p, 0, none⟩), .int .i64 x] W fun e w' => e = .returned (.tuple #[.int .i64 g, .int .i64 0]) ∧ Tk w0 w' p b s g (updI f x (some g)) (C + 1) :=
  (refresh_ok h.1 hC x hx hg he).mono fun e w' ⟨e1, e2, e3⟩ => ⟨e1, h.go e3 e2⟩
theorem global_k {w0 W : World} {p b C : Nat} {s g : Int} {f : Int → Option Int} (h : Tk w0 W p b s g f C) :
    Calls Try.prog 10 #[.pointer (some ⟨p, 0, none⟩)] W fun e w' => e = .returned (.int .i64 g) ∧ Tk w0 w' p b s g f C :=
  (global_walk h.1).mono fun e w' ⟨e1, e2⟩ => ⟨e1, e2 ▸ h⟩
/-- Nobody is behind: the epoch rises. -/
theorem adv_up {w0 W : World} {p b C : Nat} {s g : Int} {f : Int → Option Int} (h : Tk w0 W p b s g f C) (hC : C ≤ 100000) (hg0 : 0 ≤ g) (hg1 : g < 2147483647) (hf : ∀ x v, f x = some v → g ≤ v) :
    Calls Try.prog 8 #[.pointer (some ⟨p, 0, none⟩)] W fun e w' => e = .returned (.tuple #[.int .i64 (g + 1), .int .i64 0]) ∧ Tk w0 w' p b s (g + 1) f C := by
  refine (adv_walk h.1 hC (by omega) hg0 (by omega)).mono ?_
  rintro e w' ⟨m, ⟨h1, h2, h3⟩, hch, ⟨h4, _⟩ | ⟨h4, e1, e2⟩⟩
  · rcases h3 with h3 | ⟨x, hx, h3⟩
    · omega
    · have := hf x m h3; omega
  · exact ⟨e1, h.go hch e2⟩
/-- Somebody is behind: it does not. -/
theorem adv_busy {w0 W : World} {p b C : Nat} {s g : Int} {f : Int → Option Int} (h : Tk w0 W p b s g f C) (hC : C ≤ 100000) (hg0 : 0 ≤ g) (hg1 : g < 2147483647) (x v : Int) (hx : WFi x) (hf : f x = some v) (hv : v < g) :
    Calls Try.prog 8 #[.pointer (some ⟨p, 0, none⟩)] W fun e w' => e = .returned (.tuple #[.int .i64 0, .int .i64 60]) ∧ Tk w0 w' p b s g f C := by
  refine (adv_walk h.1 hC (by omega) hg0 (by omega)).mono ?_
  rintro e w' ⟨m, ⟨h1, h2, h3⟩, hch, ⟨h4, e1, e2⟩ | ⟨h4, _⟩⟩
  · exact ⟨e1, h.go hch e2⟩
  · have := h2 x v hx hf; omega
theorem least_k {w0 W : World} {p b C : Nat} {s g m : Int} {f : Int → Option Int} (h : Tk w0 W p b s g f C) (hC : C ≤ 100000) (hm : ∀ m', LeastF f g m' → m' = m) :
    Calls Try.prog 11 #[.pointer (some ⟨p, 0, none⟩)] W fun e w' => e = .returned (.int .i64 m) ∧ Tk w0 w' p b s g f C := by
  refine (least_t h.1 hC).mono ?_
  rintro e w' ⟨m', e1, e2, e3⟩
  exact ⟨by rw [e1, hm m' e2], h.grow e3⟩
theorem awake_walk (w : World) : Calls Try.prog 6 #[] w fun e w' => e = .returned (.bool true) ∧ Below w.heap.size w w' := by
  go_enter Try.func6, Try.ntmps6
  go_wp2_with (go_at_call 7; refine (newT_walk 2 5 ?a1 ?a2 ?a3 ?a4).mono ?_)
  case a1 => decide
  case a2 => decide
  case a3 => decide
  case a4 => decide
  rintro e w1 ⟨rfl, hT, hb⟩
  have t1 : Tk w w1 (w.heap.size + 1) w.heap.size 2 5 (fun _ => none) 0 := ⟨hT, by omega, Nat.le_refl _, hb⟩
  clear hT hb
  generalize w.heap.size + 1 = p at *
  generalize hb : w.heap.size = b at t1
  clear hb
  go_wp2_with (go_at_call 9; refine (enter_k t1 ?b1 0 ?b2 ?b3 ?b4).mono ?_)
  case b1 => omega
  case b2 => exact wfi (by decide) (by decide)
  case b3 => exact wfi (by decide) (by decide)
  case b4 => rfl
  rintro e w2 ⟨rfl, t2⟩
  clear t1
  go_wp2_with (go_at_call 8; refine (adv_up t2 ?c1 ?c2 ?c3 ?c4).mono ?_)
  case c1 => omega
  case c2 => omega
  case c3 => omega
  case c4 => intro x v h; unfold updI at h; split at h; (· cases h; omega); (· cases h)
  rintro e w3 ⟨rfl, t3⟩
  clear t2
  go_wp2_with (go_at_call 8; refine (adv_busy t3 ?d1 ?d2 ?d3 0 5 ?d4 ?d5 ?d6).mono ?_)
  case d1 => omega
  case d2 => omega
  case d3 => omega
  case d4 => exact wfi (by decide) (by decide)
  case d5 => rfl
  case d6 => omega
  rintro e w4 ⟨rfl, t4⟩
  clear t3
  go_wp2_with (go_at_call 14; refine (refresh_k t4 ?e1 0 ?e2 ?e3 ?e4).mono ?_)
  case e1 => omega
  case e2 => exact wfi (by decide) (by decide)
  case e3 => exact wfi (by decide) (by decide)
  case e4 => rfl
  rintro e w5 ⟨rfl, t5⟩
  clear t4
  go_wp2_with (go_at_call 8; refine (adv_up t5 ?f1 ?f2 ?f3 ?f4).mono ?_)
  case f1 => omega
  case f2 => omega
  case f3 => omega
  case f4 => intro x v h; unfold updI at h; split at h; (· cases h; omega); (· cases h)
  rintro e w6 ⟨rfl, t6⟩
  go_wp2
  go_ret
  exact ⟨rfl, t6.below⟩
theorem modN (x m : Int) (hm : 0 < m) : 0 ≤ (x.tmod m + m).tmod m ∧ (x.tmod m + m).tmod m < m ∧ -m < x.tmod m ∧ x.tmod m < m := by
  have h1 := Int.tmod_lt_of_pos x hm
  have h2 := Int.lt_tmod_of_pos x hm
  have h3 := Int.tmod_nonneg m (show (0 : Int) ≤ x.tmod m + m by omega)
  have h4 := Int.tmod_lt_of_pos (x.tmod m + m) hm
  omega
def f1 (a : Int) : Int → Option Int := updI (fun _ => none) 1 (some a)
theorem f1_val (a : Int) : ∀ x v, f1 a x = some v → v = a := fun x v h => by
  unfold f1 updI at h
  split at h
  · cases h; rfl
  · cases h
theorem f1_back (a c : Int) : updI (updI (f1 a) 0 (some c)) 0 none = f1 a := by
  funext y
  unfold f1 updI
  by_cases h : y = 0
  · subst h; simp
  · simp [h]
theorem f1_none (a : Int) : updI (f1 a) 1 none = fun _ => none := by
  funext y
  unfold f1 updI
  by_cases h : y = 1
  · simp [h]
  · simp [h]
theorem waits_walk (w : World) (first n : Int) : Calls Try.prog 3 #[.int .i64 first, .int .i64 n] w fun e w' => e = .returned (.bool true) ∧ Below w.heap.size w w' := by
  have hF := modN first 1000000 (by omega)
  have hK := modN n 50 (by omega)
  obtain ⟨F, hFe⟩ : ∃ F : Int, (first.tmod 1000000 + 1000000).tmod 1000000 = F := ⟨_, rfl⟩
  obtain ⟨K, hKe⟩ : ∃ K : Nat, (n.tmod 50 + 50).tmod 50 = (K : Int) := ⟨((n.tmod 50 + 50).tmod 50).toNat, by omega⟩
  rw [hFe] at hF
  rw [hKe] at hK
  obtain ⟨hF0, hF1, hF2, hF3⟩ := hF
  obtain ⟨hK0, hK1, hK2, hK3⟩ := hK
  go_enter Try.func3, Try.ntmps3
  go_wp2_with (go_at_call 6; refine (awake_walk w).mono ?_)
  rintro e w0 ⟨rfl, hb0⟩
  go_wp2_with (go_at_call 7; refine (newT_walk 3 F ?a1 ?a2 ?a3 ?a4).mono ?_)
  case a1 => omega
  case a2 => omega
  case a3 => omega
  case a4 => omega
  rintro e w1 ⟨rfl, hT, hb⟩
  have t1 : Tk w w1 (w0.heap.size + 1) w0.heap.size 3 F (fun _ => none) 0 := ⟨hT, by have := hb0.size; omega, hb0.size, hb0.trans (hb.mono hb0.size)⟩
  clear hT hb hb0
  generalize w0.heap.size + 1 = p at *
  generalize hb : w0.heap.size = b at t1
  clear hb
  go_wp2
  go_loopw [9] (fun i wr => ∃ k : Nat, k ≤ K ∧ i = .int .i64 k ∧ Tk w wr p b 3 (F + k) (fun _ => none) 0)
    (fun i _ => K - (wdInt i).toNat)
  case atStart => exact ⟨0, Nat.zero_le _, rfl, by simpa using t1⟩
  case round =>
    obtain ⟨k, hk, rfl, t2⟩ := hrel
    by_cases hlt : k < K
    · have hltI : (k : Int) < (K : Int) := by omega
      go_wp2_with (go_at_call 8; refine (adv_up t2 ?b1 ?b2 ?b3 ?b4).mono ?_)
      case b1 => omega
      case b2 => omega
      case b3 => omega
      case b4 => intro x v h; cases h
      rintro e w3 ⟨rfl, t3⟩
      have t4 : Tk w w3 p b 3 (F + ((k + 1 : Nat) : Int)) (fun _ => none) 0 := by
        rw [Int.natCast_add, ← Int.add_assoc]; exact t3
      clear t2 t3
      go_wp2
      exact ⟨⟨k + 1, hlt, by simp, t4⟩, by simp only [wdInt]; omega⟩
    · have hkK : k = K := by omega
      subst hkK
      have hltI : ¬ (k : Int) < (k : Int) := by omega
      go_wp2_with (go_at_call 9; refine (enter_k t2 (Nat.zero_le _) 1 ?c2 ?c3 ?c4).mono ?_)
      case c2 => exact wfi (by omega) (by omega)
      case c3 => exact wfi (by omega) (by omega)
      case c4 => rfl
      rintro e w3 rfl t3
      have t3b : Tk w w3 p b 3 (F + k) (f1 (F + k)) 1 := t3
      clear t2 t3
      go_wp2_with (go_at_call 8; refine (adv_up t3b ?d1 ?d2 ?d3 ?d4).mono ?_)
      case d1 => omega
      case d2 => omega
      case d3 => omega
      case d4 => intro x v h; rw [f1_val _ x v h]; omega
      rintro e w4 ⟨rfl, t4⟩
      clear t3b
      generalize hA : F + (k : Int) = A at *
      go_wp2
      go_loopw [16, 17, 18] (fun i _ _ wr => ∃ j : Nat, j ≤ k ∧ i = .int .i64 j ∧ Tk w wr p b 3 (A + 1) (f1 A) (1 + j))
        (fun i _ _ _ => k - (wdInt i).toNat)
      case atStart => exact ⟨0, Nat.zero_le _, rfl, t4⟩
      case round =>
        obtain ⟨j, hj, rfl, t5⟩ := hrel
        by_cases hlt2 : j < k
        · have hltJ : (j : Int) < (k : Int) := by omega
          go_wp2_with (go_at_call 9; refine (enter_k t5 ?e1 0 ?e2 ?e3 ?e4).mono ?_)
          case e1 => omega
          case e2 => exact wfi (by omega) (by omega)
          case e3 => exact wfi (by omega) (by omega)
          case e4 => rfl
          rintro e w6 ⟨rfl, t6⟩
          clear t5
          go_wp2_with (go_at_call 8; refine (adv_busy t6 ?g1 ?g2 ?g3 1 A ?g4 ?g5 ?g6).mono ?_)
          case g1 => omega
          case g2 => omega
          case g3 => omega
          case g4 => exact wfi (by omega) (by omega)
          case g5 => rfl
          case g6 => omega
          rintro e w7 ⟨rfl, t7⟩
          clear t6
          go_wp2_with (go_at_call 10; refine (global_k t7).mono ?_)
          rintro e w8 ⟨rfl, t8⟩
          clear t7
          go_wp2_with (go_at_call 11; refine (least_k (m := A) t8 ?h1 ?h2).mono ?_)
          case h1 => omega
          case h2 =>
            intro m' ⟨l1, l2, l3⟩
            have h1 := l2 1 A (wfi (by omega) (by omega)) rfl
            rcases l3 with l3 | ⟨x, hx, l3⟩
            · omega
            · unfold updI at l3
              split at l3
              · cases l3; omega
              · exact f1_val A x m' l3
          rintro e w9 ⟨rfl, t9⟩
          clear t8
          go_wp2_with (go_at_call 12; refine (leave_k t9 0 ?i2 ?i4).mono ?_)
          case i2 => exact wfi (by omega) (by omega)
          case i4 => rfl
          rintro e wa ⟨rfl, ta⟩
          rw [f1_back] at ta
          clear t9
          go_wp2
          exact ⟨⟨j + 1, hlt2, by simp, ta⟩, by simp only [wdInt]; omega⟩
        · have hltJ : ¬ (j : Int) < (k : Int) := by omega
          go_wp2_with (go_at_call 12; refine (leave_k t5 1 ?j2 ?j4).mono ?_)
          case j2 => exact wfi (by omega) (by omega)
          case j4 => rfl
          rintro e w6 rfl t6
          rw [f1_none] at t6
          clear t5
          go_wp2_with (go_at_call 11; refine (least_k (m := A + 1) t6 ?k1 ?k2).mono ?_)
          case k1 => omega
          case k2 =>
            intro m' ⟨l1, l2, l3⟩
            rcases l3 with l3 | ⟨x, hx, l3⟩
            · exact l3
            · cases l3
          rintro e w7 ⟨rfl, t7⟩
          clear t6
          go_wp2_with (go_at_call 8; refine (adv_up t7 ?l1 ?l2 ?l3 ?l4).mono ?_)
          case l1 => omega
          case l2 => omega
          case l3 => omega
          case l4 => intro x v h; cases h
          rintro e w8 ⟨rfl, t8⟩
          have e2 : A + 1 + 1 = A + 2 := by omega
          rw [e2]
          go_wp2
          go_ret
          exact ⟨rfl, t8.below⟩
end Go.Proofs
namespace Go.Proofs.Ytlchgobakkodbaa
open Go.AL
theorem waits_law (xs0 : List AVal) (h : FitsL [.int .i64, .int .i64] xs0) : ACall Try.prog 3 xs0 Sto.empty fun r _ => r = .bool true := by
  simp only [FitsL] at h
  obtain ⟨a, r, rfl, h1, a', r', rfl, h2, rfl⟩ := h
  obtain ⟨m, rfl, hm1, hm2⟩ := h1
  obtain ⟨k, rfl, hk1, hk2⟩ := h2
  have key : PCall Try.prog 3 [.int .i64 m, .int .i64 k] (.bool true) := .ofBelow fun γ w vs hr => by
    obtain ⟨u, v, rfl, q2, q3⟩ := repL2 hr
    cases q2; cases q3
    exact (waits_walk w m k).mono fun e w' ⟨e1, e2⟩ => ⟨_, e1, .bool _ _, e2⟩
  exact (key Sto.empty).mono fun r τ h => h.1
end Go.Proofs.Ytlchgobakkodbaa
