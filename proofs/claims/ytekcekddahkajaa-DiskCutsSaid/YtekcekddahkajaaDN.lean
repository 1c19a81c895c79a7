/-
  Seat 07 (disk): the law DiskCuts, walked with the kit.
-/
import Derived.Test.YtekcekddahkajaaDM
import Derived.Deep.RegionHeldLaw
import Derived.Deep.DrawnRows
namespace Go.Proofs
open Go.RowKit Ytekcekddahkajaa
set_option linter.unusedSimpArgs false
set_option linter.unusedVariables false
set_option maxHeartbeats 4000000
set_option maxRecDepth 1000000
attribute [local go_sem ↓] Go.wp_at_zero Go.wp_at_succ
theorem Dk.belowA {w0 W : World} {p : Nat} {r s : Int} {l : List UInt8} (h : Dk w0 W p r s l) (o : Obj) : Below w0.heap.size w0 (W.alloc o) := h.below.alloc h.below.size _
/-- A place among the first n + 1. -/
def plc (x : Int) (n : Nat) : Nat := ((x.tmod (n + 1) + n + 1).tmod (n + 1)).toNat
theorem plc_eq (x : Int) (n : Nat) : (x.tmod ((n : Int) + 1) + n + 1).tmod ((n : Int) + 1) = (plc x n : Int) ∧ plc x n ≤ n := by
  have h1 := Int.tmod_lt_of_pos x (show (0 : Int) < (n : Int) + 1 by omega)
  have h2 := Int.lt_tmod_of_pos x (show (0 : Int) < (n : Int) + 1 by omega)
  have h3 := Int.tmod_nonneg ((n : Int) + 1) (show (0 : Int) ≤ x.tmod ((n : Int) + 1) + n + 1 by omega)
  have h4 := Int.tmod_lt_of_pos (x.tmod ((n : Int) + 1) + n + 1) (show (0 : Int) < (n : Int) + 1 by omega)
  unfold plc
  omega
theorem slB_cap {N : Nat → Prop} {w : World} {a : Option Addr} {n c : Nat} {l : List UInt8} (h : SlB N w (.slice a n c) l) : n = l.length ∧ n ≤ c ∧ c ≤ maxLen := by
  rcases h with ⟨rfl, a', h⟩ | ⟨b, off, cap, h, h1, h2, h3, h4⟩
  · cases h; exact ⟨rfl, Nat.le_refl _, by unfold maxLen; omega⟩
  · cases h; exact ⟨rfl, h1, h2⟩
theorem slB_take {N : Nat → Prop} {w : World} {a : Option Addr} {n c k : Nat} {l : List UInt8} (h : SlB N w (.slice a n c) l) (hk : k ≤ l.length) : SlB N w (.slice a k c) (l.take k) := by
  rcases h with ⟨rfl, a', h⟩ | ⟨b, off, cap, h, h1, h2, h3, h4⟩
  · cases h
    have : k = 0 := by simpa using hk
    subst this
    exact .inl ⟨rfl, _, rfl⟩
  · cases h
    have hl : (l.take k).length = k := by rw [List.length_take]; omega
    refine .inr ⟨b, off, c, by rw [hl], by omega, h2, fun hn => h3 (by rintro rfl; simp at hn), fun j x hj => h4 j x ?_⟩
    have : bvs (l.take k) = (bvs l).take k := by simp [bvs]
    rw [this, List.getElem?_take] at hj
    split at hj
    · exact hj
    · cases hj
theorem slB_drop {N : Nat → Prop} {w : World} {a : Option Addr} {n c k : Nat} {l : List UInt8} (h : SlB N w (.slice a n c) l) (hk : k ≤ l.length) :
    SlB N w (.slice (if c = k then a else Option.map (fun x => x.add k) a) (n - k) (c - k)) (l.drop k) := by
  rcases h with ⟨rfl, a', h⟩ | ⟨b, off, cap, h, h1, h2, h3, h4⟩
  · cases h
    have : k = 0 := by simpa using hk
    subst this
    exact .inl ⟨rfl, _, rfl⟩
  · cases h
    have hl : (l.drop k).length = l.length - k := by rw [List.length_drop]
    by_cases hck : c = k
    · have : l.drop k = [] := List.drop_eq_nil_of_le (by omega)
      rw [if_pos hck, this, show l.length - k = 0 by omega, show c - k = 0 by omega]
      exact .inl ⟨rfl, _, rfl⟩
    · rw [if_neg hck]
      have hplain : (⟨b, off, none⟩ : Addr).add k = ⟨b, off + k, none⟩ := by unfold Addr.add; split <;> simp_all
      refine .inr ⟨b, off + k, c - k, by rw [hl, ← hplain]; rfl, by omega, by omega, fun hn => h3 (by rintro rfl; simp at hn), fun j x hj => ?_⟩
      have : bvs (l.drop k) = (bvs l).drop k := by simp [bvs]
      rw [this, List.getElem?_drop] at hj
      have := h4 _ x hj
      rw [← Nat.add_assoc] at this
      exact this
theorem cuts_walk (w : World) (v : Value) (b : List UInt8) (flush cut : Int) (hv : SlB (fun b => b < w.heap.size) w v b) :
    Calls Try.prog 5 #[v, .int .i64 flush, .int .i64 cut] w fun e w' => e = .returned (.bool true) ∧ Below w.heap.size w w' := by
  obtain ⟨a, c, rfl⟩ := hv.len
  go_enter Try.func5, Try.ntmps5
  go_wp2_with (go_at_call 7; refine (awake_walk w).mono ?_)
  rintro e w1 ⟨rfl, hb1⟩
  by_cases hl : b.length ≤ 1000
  · have hl' : ¬ (1000 < (b.length : Int)) := by omega
    go_wp2_with (go_at_call 8; refine (new_walk (b.length : Int) (by omega) (by omega)).mono ?_)
    rintro e w2 ⟨rfl, hd, hb⟩
    have d2 : Dk w w2 w1.heap.size b.length 0 [] := ⟨none, hd, hb1.size, hb1.trans (hb.mono hb1.size)⟩
    generalize w1.heap.size = p at d2
    clear hd hb hb1
    obtain ⟨_, hcl, hcm⟩ := slB_cap hv
    have hf := plc_eq flush b.length
    have hc := plc_eq cut b.length
    generalize plc flush b.length = K at hf
    generalize plc cut b.length = M at hc
    have t1 := Int.tmod_lt_of_pos flush (show (0 : Int) < (b.length : Int) + 1 by omega)
    have t2 := Int.lt_tmod_of_pos flush (show (0 : Int) < (b.length : Int) + 1 by omega)
    have t3 := Int.tmod_lt_of_pos cut (show (0 : Int) < (b.length : Int) + 1 by omega)
    have t4 := Int.lt_tmod_of_pos cut (show (0 : Int) < (b.length : Int) + 1 by omega)
    have kc : K ≤ c := by omega
    have mc : M ≤ c := by omega
    have hlK : (b.take K).length = K := by rw [List.length_take]; omega
    have hlD : (b.drop K).length = b.length - K := by rw [List.length_drop]
    have hTD : b.take K ++ b.drop K = b := List.take_append_drop _ _
    have key := fun W1 q c' => appOne_d (W1 := W1) (q := q) (c := c') (u := .slice a K c) (m := b.take K) d2
    go_wp2_with (go_at_call 9; refine (key _ _ _ ?b1 ?q1 ?n1 ?s1 ?x1 ?y1).mono ?_)
    case b1 => exact (Below.refl _ _).alloc (Nat.le_refl _) _
    case q1 => exact World.cell?_alloc_at _ _ _ _ rfl
    case n1 => exact Nat.le_refl _
    case s1 => exact ((slB_take hv hf.2).grow (d2.below.alloc d2.below.size _)).weak fun b hb _ => .inl hb
    case x1 => simp only [hlK, List.length_nil, Nat.zero_add]; omega
    case y1 => omega
    rintro e w3 ⟨rfl, d3⟩
    clear key d2
    rw [List.nil_append] at d3
    go_wp2_with (go_at_call 10; refine (flush_d d3).mono ?_)
    rintro e w4 ⟨rfl, d4⟩
    rw [hlK] at d4 ⊢
    clear d3
    have hsD := slB_drop hv hf.2
    have key := fun W1 q c' a2 => appOne_d (W1 := W1) (q := q) (c := c') (u := .slice a2 (b.length - K) (c - K)) (m := b.drop K) d4
    obtain ⟨a2, ha2⟩ : ∃ a2, (if c = K then a else Option.map (fun x => x.add K) a) = a2 := ⟨_, rfl⟩
    rw [ha2] at hsD
    go_wp2_with (go_at_call 9; refine (key _ _ _ a2 ?b2 ?q2 ?n2 ?s2 ?x2 ?y2).mono ?_)
    case b2 => exact (Below.refl _ _).alloc (Nat.le_refl _) _
    case q2 => exact World.cell?_alloc_at _ _ _ _ rfl
    case n2 => exact Nat.le_refl _
    case s2 => exact (hsD.grow (d4.below.alloc d4.below.size _)).weak fun b hb _ => .inl hb
    case x2 => simp only [hlK, hlD]; omega
    case y2 => omega
    rintro e w5 ⟨rfl, d5⟩
    rw [hTD] at d5
    clear key d4 hsD ha2
    go_wp2_with (go_at_call 16; refine (cutE_d d5 _ ?z1).mono ?_)
    case z1 => omega
    rintro e w6 ⟨rfl, d6⟩
    clear d5
    go_wp2_with (go_at_call 16; refine (cutE_d d6 (-1) ?z2).mono ?_)
    case z2 => omega
    rintro e w7 ⟨rfl, d7⟩
    clear d6
    go_wp2_with (go_at_call 16; refine (cut_d d7 (M : Int) ?z3 ?z4).mono ?_)
    case z3 => omega
    case z4 => omega
    rintro e w8 ⟨rfl, d8⟩
    clear d7
    rw [Int.toNat_natCast] at d8
    have hlM : (b.take M).length = M := by rw [List.length_take]; omega
    have hlE : (b.drop M).length = b.length - M := by rw [List.length_drop]
    have hTE : b.take M ++ b.drop M = b := List.take_append_drop _ _
    have hst : stayN 0 (M : Int) ((b.take M).length : Int) = (M : Int) := by rw [hlM]; unfold stayN; omega
    have hTT : (b.take M).take M = b.take M := by rw [List.take_take, Nat.min_self]
    have hsE := slB_drop hv hc.2
    obtain ⟨a3, ha3⟩ : ∃ a3, (if c = M then a else Option.map (fun x => x.add M) a) = a3 := ⟨_, rfl⟩
    rw [ha3] at hsE
    have hcv : ∀ W, Below w.heap.size w W → (convert 28 9 (.slice a M c)).run Try.prog W = .ok (.string ⟨(b.take M).toArray⟩) W := fun W h => slB_conv ((slB_take hv hc.2).grow h)
    have hcw : ∀ W, Below w.heap.size w W → (convert 28 9 (.slice a b.length c)).run Try.prog W = .ok (.string ⟨b.toArray⟩) W := fun W h => slB_conv (hv.grow h)
    have d9 : Dk w w8.drew p b.length M (b.take M) := d8.grow (Below.refl _ w8).drew
    have hc9 := hcv _ d9.below
    clear d8 hf hlK hlD hTD kc t1 t2 t3 t4
    go_wp2
    have hw : IntKind.i64.wrap ((b.length : Int) - (M : Int)) = (b.length : Int) - (M : Int) := AL.wrap_i64 (by omega) (by omega)
    have i1 : (0 : Int) ≤ (M : Int) := by omega
    have i2 : (M : Int) ≤ (c : Int) := by omega
    have i3 : (M : Int) ≤ (b.length : Int) := by omega
    go_region_held_law (fun w' => (convert 28 9 (.slice a M c)).run Try.prog w' = .ok (.string ⟨(b.take M).toArray⟩) w' ∧ (convert 28 9 (.slice a b.length c)).run Try.prog w' = .ok (.string ⟨b.toArray⟩) w')
      (first | exact ⟨hcv _ (Dk.below (by assumption)), hcw _ (Dk.below (by assumption))⟩ | exact ⟨hcv _ (Dk.belowA (by assumption) _), hcw _ (Dk.belowA (by assumption) _)⟩)
      (first
      | (go_at_call 12; refine Calls.mono (bytes_d (w0 := w) (by assumption) ?_) ?_; (· (first | omega | (rw [hlM]; omega))); rintro e W ⟨u, rfl, hu, hd, hbl⟩; have hcu := slB_conv (ownsRow_slB hu))
      | (go_at_call 15; refine Calls.mono (safe_d (w0 := w) (by assumption)) ?_; rintro e W ⟨rfl, hd⟩)
      | (go_at_call 11; refine Calls.mono (crash_d (w0 := w) (by assumption) 0 ?_ ?_ ?_) ?_; (· omega); (· (rw [hlM]; omega)); (· (rw [hlM]; omega)); rw [hst, Int.toNat_natCast, hTT]; rintro e W ⟨rfl, hd⟩)
      | (go_at_call 14; refine Calls.mono (left_d (w0 := w) (by assumption) ?_ ?_) ?_; (· (rw [hlM]; omega)); (· omega); rw [hlM]; rintro e W ⟨rfl, hd⟩)
      | (go_at_call 9; have dA := (by assumption : Dk w _ p b.length M (b.take M)); refine Calls.mono (appOne_d (m := b.drop M) (u := .slice a3 (b.length - M) (c - M)) dA ((Below.refl _ _).alloc (Nat.le_refl _) _) (World.cell?_alloc_at _ _ _ _ rfl) (Nat.le_refl _) ((hsE.grow (dA.belowA _)).weak fun b hb _ => .inl hb) ?_ ?_) ?_; (· simp only [hlM, hlE]; omega); (· omega); rw [hTE]; rintro e W ⟨rfl, hd⟩))
    go_wp2
    go_ret
    exact ⟨rfl, Dk.below (by assumption)⟩
  · have hl' : 1000 < (b.length : Int) := by omega
    go_wp2_with (go_at_call 7; refine (awake_walk w1).mono ?_)
    rintro e w2 ⟨rfl, hb2⟩
    go_wp2
    go_ret
    exact ⟨rfl, hb1.trans (hb2.mono hb1.size)⟩
end Go.Proofs
namespace Go.Proofs.Ytekcekddahkajaa
open Go.AL
set_option linter.unusedSimpArgs false
set_option linter.unusedVariables false
theorem flat_bw : ∀ l : List UInt8, flat (bw l) = bw l
  | [] => rfl
  | a :: l => congrArg (ofByte a :: ·) (flat_bw l)
theorem repL_bw_inv {γ : Gh} {w : World} {b : Bool} : ∀ (l : List UInt8) (vs : List Value), RepL γ w b (bw l) vs → vs = bvs l
  | [], vs, h => by cases h; rfl
  | p :: l, vs, h => by
    cases h with
    | cons h1 h => cases h1; rw [repL_bw_inv l _ h]; rfl
/-- Bytes that came in, as the kit sees them. -/
theorem rep_slB {γ : Gh} {w : World} {b : Bool} {l : List UInt8} {v : Value} {t : Tag} (h : Rep γ w b (.slice (bw l) 1 t) v) : SlB (fun b => b < w.heap.size) w v l := by
  generalize he : bw l = es at h
  cases h with
  | @sliceRow _ _ _ _ b off cap vs h1 h2 h3 h4 h5 h6 h7 =>
    subst he
    rw [flat_bw] at h1
    have e := repL_bw_inv l vs h1
    subst e
    refine .inr ⟨b, off, cap, by rw [bw_length], by simpa [bw_length] using h5, h6, fun hl => ?_, fun j x hj => (h3 j x hj).2⟩
    cases l with
    | nil => exact (hl rfl).elim
    | cons a l => exact World.block_lt_of_cell? _ _ (h3 0 _ rfl).2
  | sliceNil => exact .inl ⟨(by cases l with | nil => rfl | cons => cases he), _, rfl⟩
theorem cuts_law (xs0 : List AVal) (h : FitsL [.slice (.int .u8) 1 1, .int .i64, .int .i64] xs0) : ACall Try.prog 5 xs0 Sto.empty fun r _ => r = .bool true := by
  simp only [FitsL] at h
  obtain ⟨a, r, rfl, h1, a', r', rfl, h2, a'', r'', rfl, h3, rfl⟩ := h
  obtain ⟨l, rfl, hl⟩ := fits_bw h1
  obtain ⟨m, rfl, hm1, hm2⟩ := h2
  obtain ⟨k, rfl, hk1, hk2⟩ := h3
  have key : PCall Try.prog 5 [bwsV l, .int .i64 m, .int .i64 k] (.bool true) := .ofBelow fun γ w vs hr => by
    cases hr with
    | cons q1 hr =>
      obtain ⟨u, v, rfl, q2, q3⟩ := repL2 hr
      cases q2; cases q3
      exact (cuts_walk w _ l m k (rep_slB q1)).mono fun e w' ⟨e1, e2⟩ => ⟨_, e1, .bool _ _, e2⟩
  exact (key Sto.empty).mono fun r τ h => h.1
end Go.Proofs.Ytekcekddahkajaa
