/-
  Seat 06 (epoch): all that a table tells is the document's.
-/
import Derived.Test.YtlchgobakkodbaaED
import Derived.Test.YtlchgobakkodbaaEB
namespace Go.Proofs
open Go.RowKit Go.Maps Go.Shelf
set_option linter.unusedSimpArgs false
set_option linter.unusedVariables false
set_option maxHeartbeats 4000000
set_option maxRecDepth 1000000
/-- How many stand ahead. -/
def cntL (ss : List Int) (i : Int) : Nat := (ss.filter fun x => decide (x < i)).length
theorem cntL_cons (a : Int) (l : List Int) (i : Int) : cntL (a :: l) i = if a < i then cntL l i + 1 else cntL l i := by
  unfold cntL
  by_cases h : a < i
  · rw [List.filter_cons_of_pos (by simpa using h), if_pos h, List.length_cons]
  · rw [List.filter_cons_of_neg (by simpa using h), if_neg h]
theorem cntL_zero : ∀ (l : List Int) (i : Int), (∀ x ∈ l, i ≤ x) → cntL l i = 0
  | [], _, _ => rfl
  | a :: l, i, h => by
    rw [cntL_cons, if_neg (by have := h a (by simp); omega)]
    exact cntL_zero l i fun x hx => h x (by simp [hx])
theorem cntL_all : ∀ (l : List Int) (i : Int), (∀ x ∈ l, x < i) → cntL l i = l.length
  | [], _, _ => rfl
  | a :: l, i, h => by
    rw [cntL_cons, if_pos (h a (by simp)), cntL_all l i fun x hx => h x (by simp [hx])]
    rfl
theorem cntL_out : ∀ (l : List Int) (i : Int), i ∉ l → cntL l (i + 1) = cntL l i
  | [], _, _ => rfl
  | a :: l, i, h => by
    have ha : i ≠ a := fun e => h (by simp [e])
    have ih := cntL_out l i fun hx => h (by simp [hx])
    rw [cntL_cons, cntL_cons, ih]
    by_cases h1 : a < i
    · rw [if_pos (by omega), if_pos h1]
    · rw [if_neg (by omega), if_neg h1]
theorem cntL_in : ∀ (l : List Int) (i : Int), l.Pairwise (· < ·) → i ∈ l → l[cntL l i]? = some i ∧ cntL l (i + 1) = cntL l i + 1
  | [], _, _, h => by cases h
  | a :: l, i, hp, h => by
    rw [List.pairwise_cons] at hp
    rw [cntL_cons, cntL_cons]
    by_cases ha : i = a
    · subst ha
      have h1 : cntL l i = 0 := cntL_zero l i fun x hx => by have := hp.1 x hx; omega
      have h2 : cntL l (i + 1) = 0 := cntL_zero l (i + 1) fun x hx => by have := hp.1 x hx; omega
      rw [if_neg (by omega), if_pos (by omega), h1, h2]
      exact ⟨rfl, rfl⟩
    · have hl : i ∈ l := by
        rcases List.mem_cons.1 h with h | h
        · exact (ha h).elim
        · exact h
      have hai := hp.1 i hl
      obtain ⟨h1, h2⟩ := cntL_in l i hp.2 hl
      rw [if_pos hai, if_pos (by omega), h2]
      exact ⟨h1, rfl⟩
/-- The least of the reference's is the least. -/
theorem minR_le (g : Int) : ∀ L : List Int, minR g L ≤ g ∧ ∀ v ∈ L, 0 ≤ v → minR g L ≤ v := by
  intro L
  induction L generalizing g with
  | nil => exact ⟨Int.le_refl _, fun v h => by cases h⟩
  | cons a l ih =>
    have e : minR g (a :: l) = minR (if 0 ≤ a ∧ a < g then a else g) l := rfl
    rw [e]
    obtain ⟨h1, h2⟩ := ih (if 0 ≤ a ∧ a < g then a else g)
    by_cases hc : 0 ≤ a ∧ a < g
    · rw [if_pos hc] at h1 h2 ⊢
      refine ⟨by omega, fun v hv h0 => ?_⟩
      rcases List.mem_cons.1 hv with rfl | hv
      · exact h1
      · exact h2 v hv h0
    · rw [if_neg hc] at h1 h2 ⊢
      refine ⟨h1, fun v hv h0 => ?_⟩
      rcases List.mem_cons.1 hv with rfl | hv
      · omega
      · exact h2 v hv h0
theorem minR_mem (g : Int) : ∀ L : List Int, minR g L = g ∨ (minR g L ∈ L ∧ 0 ≤ minR g L) := by
  intro L
  induction L generalizing g with
  | nil => exact .inl rfl
  | cons a l ih =>
    have e : minR g (a :: l) = minR (if 0 ≤ a ∧ a < g then a else g) l := rfl
    rw [e]
    rcases ih (if 0 ≤ a ∧ a < g then a else g) with h | ⟨h1, h2⟩
    · rw [h]
      by_cases hc : 0 ≤ a ∧ a < g
      · rw [if_pos hc]; exact .inr ⟨by simp, hc.1⟩
      · rw [if_neg hc]; exact .inl rfl
    · exact .inr ⟨by simp [h1], h2⟩
theorem rdL_some {L : List Int} {x v : Int} (h : rdL L x = some v) : v ∈ L ∧ 0 ≤ v ∧ 0 ≤ x ∧ x < L.length := by
  unfold rdL at h
  split at h
  · rename_i hc
    cases h
    have hx : x.toNat < L.length := by omega
    refine ⟨?_, hc.2.2, hc.1, hc.2.1⟩
    rw [List.getD_eq_getElem?_getD, List.getElem?_eq_getElem hx]
    exact List.getElem_mem hx
  · cases h
theorem least_eq {L : List Int} {g m : Int} (hl : L.length ≤ 1000000) (h : LeastF (rdL L) g m) : m = minR g L := by
  obtain ⟨h1, h2, h3⟩ := h
  obtain ⟨k1, k2⟩ := minR_le g L
  have a : m ≤ minR g L := by
    rcases minR_mem g L with e | ⟨e1, e2⟩
    · rw [e]; exact h1
    · obtain ⟨i, hi, he⟩ := List.getElem_of_mem e1
      refine h2 (i : Int) _ (wfi (by omega) (by omega)) ?_
      have hd : L.getD i (-1) = minR g L := by rw [List.getD_eq_getElem?_getD, List.getElem?_eq_getElem hi, he]; rfl
      unfold rdL
      rw [Int.toNat_natCast, hd, if_pos ⟨by omega, by omega, e2⟩]
  have b : minR g L ≤ m := by
    rcases h3 with e | ⟨x, hx, e⟩
    · rw [e]; exact k1
    · obtain ⟨q1, q2, _⟩ := rdL_some e
      exact k2 m q1 q2
  omega
theorem RefT.grow {w w' : World} {q gr cap : Nat} {g : Int} {L : List Int} (h : RefT w q gr cap g L) (hb : Below w.heap.size w w') : RefT w' q gr cap g L :=
  h.keep (hb.block q (by have := h.lt; omega)) (hb.block gr h.lt.2)
theorem least_w {W0 W : World} {p b C : Nat} {g : Int} {L : List Int} (h : Tab W0 p b L.length g (rdL L) C) (hC : C ≤ 100000) (hl : L.length ≤ 1000000) (hb : Below W0.heap.size W0 W) :
    Calls Try.prog 11 #[.pointer (some ⟨p, 0, none⟩)] W fun e w' => e = .returned (.int .i64 (minR g L)) ∧ Below W0.heap.size W0 w' := by
  refine (least_t (h.grow hb) hC).mono ?_
  rintro e w' ⟨m, rfl, hm, hb'⟩
  exact ⟨by rw [least_eq hl hm], hb.trans (hb'.mono hb.size)⟩
theorem global_w {W0 W : World} {p b C : Nat} {g : Int} {L : List Int} (h : Tab W0 p b L.length g (rdL L) C) (hb : Below W0.heap.size W0 W) :
    Calls Try.prog 10 #[.pointer (some ⟨p, 0, none⟩)] W fun e w' => e = .returned (.int .i64 g) ∧ w' = W :=
  global_walk (h.grow hb)
theorem leastR_w {W0 W : World} {q gr cap : Nat} {g : Int} {L : List Int} (h : RefT W0 q gr cap g L) (hl : L.length ≤ 1000000) (hb : Below W0.heap.size W0 W) :
    Calls Try.prog 24 #[.pointer (some ⟨q, 0, none⟩)] W fun e w' => e = .returned (.int .i64 (minR g L)) ∧ w' = W :=
  leastR_walk (h.grow hb) hl
/-- No session is more than one behind. -/
def Inv6 (g : Int) (L : List Int) : Prop := 0 ≤ g ∧ g ≤ 2147483647 ∧ ∀ v ∈ L, v = -1 ∨ (g - 1 ≤ v ∧ v ≤ g ∧ 0 ≤ v)
theorem Inv6.min {g : Int} {L : List Int} (h : Inv6 g L) : g - 1 ≤ minR g L ∧ minR g L ≤ g ∧ 0 ≤ minR g L := by
  obtain ⟨h0, h1, h2⟩ := h
  have h3 := (minR_le g L).1
  rcases minR_mem g L with e | ⟨e1, e2⟩
  · omega
  · rcases h2 _ e1 with e | ⟨e, _⟩ <;> omega
theorem busy_w {W0 W : World} {p b C : Nat} {g : Int} {L : List Int} (h : Tab W0 p b L.length g (rdL L) C) (hC : C ≤ 100000) (hb : Below W0.heap.size W0 W) :
    Calls Try.prog 25 #[.pointer (some ⟨p, 0, none⟩)] W fun e w' => ∃ (v : Value) (ss : List Int), e = .returned v ∧ w'.ownsRow W0.heap.size 3 1 v ss.length (ivs ss) ∧ ss.Pairwise (· < ·) ∧ (∀ x, x ∈ ss ↔ WFi x ∧ (rdL L x).isSome = true) ∧ Below W0.heap.size W0 w' := by
  refine (busy_walk (h.grow hb) hC).mono ?_
  rintro e w' ⟨v, ss, rfl, h1, h2, h3, h4⟩
  exact ⟨v, ss, rfl, ownsRow_base_a h1 hb.size, h2, h3, hb.trans (h4.mono hb.size)⟩
theorem told_walk {W0 : World} {p b q gr cap C : Nat} {g : Int} {L : List Int} (ht : Tab W0 p b L.length g (rdL L) C) (hr : RefT W0 q gr cap g L) (hC : C ≤ 100000) (hl : L.length ≤ 64) (hi : Inv6 g L) :
    Calls Try.prog 19 #[.pointer (some ⟨p, 0, none⟩), .pointer (some ⟨q, 0, none⟩)] W0 fun e w' => e = .returned (.bool true) ∧ Below W0.heap.size W0 w' := by
  have hl2 : L.length ≤ 1000000 := by omega
  obtain ⟨m1, m2, m3⟩ := hi.min
  obtain ⟨c0, c1, z0⟩ := hr.cells
  have hq : q < W0.heap.size := by have := hr.lt; omega
  have fS : ∀ W, Below W0.heap.size W0 W → W.cell? ⟨q, 0, none⟩ = some (.int .i64 g) := fun W h => (h.cell (p := ⟨q, 0, none⟩) hq).trans c0
  have hcg := fun {W : World} (hb : Below W0.heap.size W0 W) => global_w ht hb
  have hcl := fun {W : World} (hb : Below W0.heap.size W0 W) => least_w ht hC hl2 hb
  have hcr := fun {W : World} (hb : Below W0.heap.size W0 W) => leastR_w hr hl2 hb
  have hw : IntKind.i64.wrap (g - minR g L) = g - minR g L := AL.wrap_i64 (by obtain ⟨h1, h2, _⟩ := hi; omega) (by obtain ⟨h1, h2, _⟩ := hi; omega)
  have hd : ¬ (1 < g - minR g L) := by omega
  have hB : Below W0.heap.size W0 W0.drew := (Below.refl _ _).drew
  generalize hm : minR g L = m at *
  go_enter Try.func19, Try.ntmps19
  go_upto_region 1 with fail
  go_region_held_law (fun w' => w'.cell? ⟨q, 0, none⟩ = some (.int .i64 g))
    (first | exact fS _ (by assumption))
    (first
      | (go_at_call 10; refine Calls.mono (hcg (by assumption)) ?_; rintro e W ⟨rfl, rfl⟩)
      | (go_at_call 24; refine Calls.mono (hcr (by assumption)) ?_; rintro e W ⟨rfl, rfl⟩)
      | (go_at_call 11; refine Calls.mono (hcl (by assumption)) ?_; rintro e W ⟨rfl, hB⟩))
  go_wp2_with (go_at_call 25; refine Calls.mono (busy_w ht hC (by assumption)) ?_)
  rintro e W3 ⟨v, ss, rfl, hrow, hpw, hmem, hB3⟩
  have ht3 := ht.grow hB3
  have hr3 := hr.grow hB3
  clear hcg hcl hcr fS
  clear ht hr
  obtain ⟨d0, d1, _⟩ := hr3.cells
  obtain ⟨av, cv, rfl, hmx⟩ : ∃ av cv, v = .slice av ss.length cv ∧ ss.length ≤ maxLen := by
    rcases hrow.2 with ⟨rfl, h⟩ | ⟨gb, cap, cur, h, _, _, q1, q2, _⟩
    · exact ⟨_, _, by rw [h], by rw [h]; exact Nat.zero_le _⟩
    · exact ⟨_, _, h, by omega⟩
  have hmI : (ss.length : Int) ≤ 9223372036854775807 := by unfold maxLen at hmx; omega
  have hrng : ∀ x ∈ ss, 0 ≤ x ∧ x < L.length := fun x hx => by
    obtain ⟨_, h2⟩ := (hmem x).1 hx
    obtain ⟨v, hv⟩ := Option.isSome_iff_exists.1 h2
    exact (rdL_some hv).2.2
  go_wp2
  go_loopw [6, 7, 8, 9, 10] (fun k i _ _ _ wr => ∃ x : Int, -1 ≤ x ∧ x ≤ L.length + 1 ∧ i = .int .i64 x ∧ k = .int .i64 (cntL ss x : Nat) ∧ wr = W3)
    (fun _ i _ _ _ _ => ((L.length : Int) + 1 - wdInt i).toNat)
  case atStart => exact ⟨-1, by omega, by omega, rfl, by rw [cntL_zero ss (-1) fun x hx => by have := hrng x hx; omega]; rfl, rfl⟩
  case round =>
    obtain ⟨x, hx1, hx2, rfl, rfl, rfl⟩ := hrel
    have hwx : WFi x := wfi (by omega) (by omega)
    by_cases hlt : x ≤ L.length
    · have hin := in_walk ht3 x hwx
      by_cases hs : (rdL L x).isSome = true
      · have hxm : x ∈ ss := (hmem x).2 ⟨hwx, hs⟩
        obtain ⟨hk, hk1⟩ := cntL_in ss x hpw hxm
        obtain ⟨y, hy⟩ := Option.isSome_iff_exists.1 hs
        obtain ⟨y1, y2, y3, y4⟩ := rdL_some hy
        rw [hy] at hin
        simp only [Option.getD_some, Option.isSome_some] at hin
        obtain ⟨n, rfl⟩ : ∃ n : Nat, x = n := ⟨x.toNat, by omega⟩
        have hn : n < L.length := by omega
        obtain ⟨c2, z2⟩ := hr3.at hn
        have hyy : L.getD n (-1) = y := by
          unfold rdL at hy
          split at hy
          · cases hy; rfl
          · cases hy
        rw [hyy] at c2
        have hkl : cntL ss n < ss.length := (List.getElem?_eq_some_iff.1 hk).1
        obtain ⟨gb, rfl⟩ : ∃ gb, av = some ⟨gb, 0, none⟩ := by
          rcases hrow.2 with ⟨h1, h2⟩ | ⟨gb, cap, cur, h1, _⟩
          · omega
          · simp only [Value.slice.injEq] at h1; exact ⟨gb, h1.1⟩
        have c3 : wr.cell? ⟨gb, cntL ss n, none⟩ = some (.int .i64 n) := by
          rw [hrow.cellAt _ (by omega), ivs, List.getElem?_map, hk]
          rfl
        have hfin : ∃ x : Int, -1 ≤ x ∧ x ≤ L.length + 1 ∧ Value.int .i64 ((n : Int) + 1) = .int .i64 x ∧ Value.int .i64 ((cntL ss n : Int) + 1) = .int .i64 (cntL ss x : Nat) ∧ True :=
          ⟨(n : Int) + 1, by omega, by omega, rfl, by rw [hk1]; simp, trivial⟩
        have hklI : (cntL ss n : Int) < (ss.length : Int) := by omega
        have hki : (0 : Int) ≤ (cntL ss n : Int) := by omega
        generalize cntL ss n = kc at *
        clear hk hk1 hmem hrng
        go_wp2_with (go_at_call 13; refine hin.mono ?_)
        intro e W5
        try simp only [and_imp]
        rintro rfl rfl
        go_wp2
        exact ⟨hfin, by simp only [wdInt]; omega⟩
      · have hxm : x ∉ ss := fun h => hs ((hmem x).1 h).2
        have hk1 := cntL_out ss x hxm
        have hno : rdL L x = none := by cases h : rdL L x with | none => rfl | some y => rw [h] at hs; exact (hs rfl).elim
        rw [hno] at hin
        simp only [Option.getD_none, Option.isSome_none] at hin
        have hfin : ∃ z : Int, -1 ≤ z ∧ z ≤ L.length + 1 ∧ Value.int .i64 (x + 1) = .int .i64 z ∧ Value.int .i64 (cntL ss x : Nat) = .int .i64 (cntL ss z : Nat) ∧ True :=
          ⟨x + 1, by omega, by omega, rfl, by rw [hk1], trivial⟩
        generalize cntL ss x = kc at *
        by_cases h0 : x < 0
        · go_wp2_with (go_at_call 13; refine hin.mono ?_)
          intro e W5
          try simp only [and_imp]
          rintro rfl rfl
          go_wp2
          exact ⟨hfin, by simp only [wdInt]; omega⟩
        · have h0' : 0 ≤ x := by omega
          by_cases h1 : x < L.length
          · obtain ⟨n, rfl⟩ : ∃ n : Nat, x = n := ⟨x.toNat, by omega⟩
            have hn : n < L.length := by omega
            obtain ⟨c2, z2⟩ := hr3.at hn
            have hneg : L.getD n (-1) < 0 := by
              unfold rdL at hno
              split at hno
              · cases hno
              · rename_i hc
                rw [Int.toNat_natCast] at hc
                omega
            generalize L.getD n (-1) = y at *
            go_wp2_with (go_at_call 13; refine hin.mono ?_)
            exact ⟨hfin, by simp only [wdInt]; omega⟩
          · go_wp2_with (go_at_call 13; refine hin.mono ?_)
            exact ⟨hfin, by simp only [wdInt]; omega⟩
    · rw [cntL_all ss x fun y hy => by have := hrng y hy; omega]
      go_wp2
      go_ret
      exact ⟨rfl, hB3⟩
end Go.Proofs
