/-
  Seat 10 (chunk): contracts: the reference's small functions.
-/
import Derived.Test.YtjdjecaclbdhhaaCl
import Derived.Test.YtjdjecaclbdhhaaCy
namespace Go.Proofs.Ytjdjecaclbdhhaa
open Go.AL
set_option linter.unusedSimpArgs false
set_option linter.unusedVariables false
set_option maxHeartbeats 2000000
set_option maxRecDepth 20000

theorem take_step {α : Type} {a b : List α} {i : Nat} (h1 : i < a.length) (h2 : i < b.length) (he : a.take i = b.take i) (hx : a[i] = b[i]) : a.take (i + 1) = b.take (i + 1) := by
  rw [List.take_succ_eq_append_getElem h1, List.take_succ_eq_append_getElem h2, he, hx]
theorem take_ne {α : Type} {a b : List α} {i : Nat} (h1 : i < a.length) (h2 : i < b.length) (hx : a[i] ≠ b[i]) : a ≠ b := by
  rintro rfl; exact hx rfl
theorem take_all {α : Type} {a b : List α} {i : Nat} (h1 : a.length ≤ i) (h2 : b.length ≤ i) (he : a.take i = b.take i) : a = b := by
  rwa [List.take_of_length_le h1, List.take_of_length_le h2] at he
theorem iv_one (o : List Int) (x : Int) : iv o ++ [.int .i64 x] = iv (o ++ [x]) := by simp [iv]
theorem own_one (o : List Int) (x : Int) : Sto.setOwn (Sto.pushOwn Sto.empty (iv o).length) 0 ((iv o).length + 1) = Sto.pushOwn Sto.empty (iv (o ++ [x])).length := by
  rw [setOwn_e1, ← iv_one, List.length_append]; rfl
theorem iv_oneG (o : List Int) (x : Int) : iv o ++ [.int .i64 (AVal.intOf (List.getD [AVal.int .i64 x] 0 .undef))] = iv (o ++ [x]) := iv_one o x
theorem has_c (l : List Int) (x : Int) (hl : l.length ≤ 140737488351232) : ACall Try.prog 26 [.slice (iv l) 1 .ro, .int .i64 x] Sto.empty fun r _ => Wk r (.bool (l.contains x)) := by
  refine has_i _ _ _ (.of_none rfl) ?_
  have hn : (iv l).length = l.length := iv_length l
  refine loopV_intro (α := Nat) (fun i => hasL_S l x i) (fun i => i ≤ l.length ∧ ∀ y ∈ l.take i, y ≠ x) (fun i => l.length - i) ?_ 0 ⟨Nat.zero_le _, fun x hx => by simp at hx⟩
  rintro i ⟨hi, hpre⟩ L hL
  refine Eq.mpr (hasL_r l x i L _) ?_
  simp only [hold_eq]
  refine brV_by (fun h => ?_) (fun h => ?_)
  · have hlt : i < l.length := by have := of_decide_eq_true h; omega
    rw [i64_succ hlt hl, elemAt_iv l i hlt]
    refine gb_by (dt (by omega)) (gb_by rfl (brV_by (fun h => ?_) (fun h => ?_)))
    · have e : l[i] = x := by
        have h : (l[i] == x) = true := h
        simpa using h
      have hc : l.contains x = true := by rw [← e]; simp
      rw [hc]
      exact Wk.refl _
    · have e : l[i] ≠ x := by
        have h : (l[i] == x) = false := h
        simpa using h
      refine hL (i + 1) ⟨hlt, fun y hy => ?_⟩ (by omega)
      rw [List.take_succ_eq_append_getElem hlt] at hy
      rcases List.mem_append.1 hy with h1 | h1
      · exact hpre y h1
      · simp at h1; subst h1; exact e
  · have hge : ¬ i < l.length := by have := of_decide_eq_false h; omega
    rw [List.take_of_length_le (by omega)] at hpre
    have hc : l.contains x = false := by
      cases hh : l.contains x with
      | false => rfl
      | true =>
        have : x ∈ l := by simpa using hh
        exact (hpre x this rfl).elim
    rw [hc]
    exact leaveTo (toCut (Eq.mpr (hasF_r _) (Wk.refl _)))
theorem has_ok : EntOk Try.prog hasE := by
  intro xs σ; simp only [hasE]; split
  · rename_i es s t x
    intro hc
    simp only [Bool.and_eq_true, hold_eq] at hc
    obtain ⟨h1, h2, h3⟩ := hc
    refine pcall_of (.cons (wk_iv t h1 h2) (.refl _)) (by rw [hold_eq]; exact has_c _ x (by simpa using lenOk_of h3)) (by simp only [noOutL, AVal.noOut, iv_noOut, Bool.and_true]) (by simp only [noTokL, AVal.noTok, iv_noTok, Bool.and_true, Tag.below]) rfl rfl
  · trivial
theorem used_c (l : List Ck) (x : Int) (hl : l.length ≤ 1000000) : ACall Try.prog 38 [.slice (ckv l) 4 .ro, .int .i64 x] Sto.empty fun r _ => Wk r (.bool ((nosC l).contains x)) := by
  refine used_i _ _ _ (.of_none rfl) ?_
  have hn : (ckv l).length = l.length := ckv_length l
  refine loopV_intro (α := Nat) (fun i => usedL_S l x i) (fun i => i ≤ l.length ∧ ∀ y ∈ l.take i, y.1 ≠ x) (fun i => l.length - i) ?_ 0 ⟨Nat.zero_le _, fun x hx => by simp at hx⟩
  rintro i ⟨hi, hpre⟩ L hL
  refine Eq.mpr (usedL_r l x i L _) ?_
  simp only [hold_eq]
  refine brV_by (fun h => ?_) (fun h => ?_)
  · have hlt : i < l.length := by have := of_decide_eq_true h; omega
    rw [i64_succ hlt (by omega), elemAt_ckv l i hlt]
    refine gb_by (dt (by omega)) (gb_by rfl (brV_by (fun h => ?_) (fun h => ?_)))
    · have e : l[i].1 = x := by
        have h : (l[i].1 == x) = true := h
        simpa using h
      have hc : (nosC l).contains x = true := List.contains_iff_mem.2 (List.mem_map.2 ⟨l[i], List.getElem_mem hlt, e⟩)
      rw [hc]
      exact Wk.refl _
    · have e : l[i].1 ≠ x := by
        have h : (l[i].1 == x) = false := h
        simpa using h
      refine hL (i + 1) ⟨hlt, fun y hy => ?_⟩ (by omega)
      rw [List.take_succ_eq_append_getElem hlt] at hy
      rcases List.mem_append.1 hy with h1 | h1
      · exact hpre y h1
      · simp at h1; subst h1; exact e
  · have hge : ¬ i < l.length := by have := of_decide_eq_false h; omega
    rw [List.take_of_length_le (by omega)] at hpre
    have hc : (nosC l).contains x = false := by
      cases hh : (nosC l).contains x with
      | false => rfl
      | true =>
        obtain ⟨y, hy, e⟩ := List.mem_map.1 (List.contains_iff_mem.1 hh)
        exact (hpre y hy e).elim
    rw [hc]
    exact leaveTo (toCut (Eq.mpr (usedF_r _) (Wk.refl _)))
theorem used_ok : EntOk Try.prog usedE := by
  intro xs σ; simp only [usedE]; split
  · rename_i es s t x
    intro hc
    simp only [Bool.and_eq_true, hold_eq] at hc
    obtain ⟨h1, h2, h3⟩ := hc
    refine pcall_of (.cons (wk_cks t h1 h2) (.refl _)) (by rw [hold_eq]; exact used_c _ x (by simpa using lenM_of h3)) (by simp only [noOutL, AVal.noOut, ckv_noOut, Bool.and_true]) (by simp only [noTokL, AVal.noTok, ckv_noTok, Bool.and_true, Tag.below]) rfl rfl
  · trivial
theorem ints_c (a b : List Int) (ha : a.length ≤ 140737488351232) : ACall Try.prog 12 [.slice (iv a) 1 .ro, .slice (iv b) 1 .ro] Sto.empty fun r _ => Wk r (.bool (a == b)) := by
  refine ints_i a b _ (.of_none rfl) ?_
  have hna : (iv a).length = a.length := iv_length a
  have hnb : (iv b).length = b.length := iv_length b
  simp only [hold_eq]
  refine brV_by (fun h => ?_) (fun h => ?_)
  · have hne : a.length ≠ b.length := by
      have : ¬ ((iv a).length : Int) = ((iv b).length : Int) := by simpa using h
      omega
    have : (a == b) = false := by rw [beq_eq_false_iff_ne]; rintro rfl; exact hne rfl
    rw [this]; exact Wk.refl _
  · have hlen : a.length = b.length := by
      have : ((iv a).length : Int) = ((iv b).length : Int) := by simpa using h
      omega
    refine loopV_intro (α := Nat) (fun i => intsL_S a b i) (fun i => i ≤ a.length ∧ a.take i = b.take i) (fun i => a.length - i) ?_ 0 ⟨Nat.zero_le _, rfl⟩
    rintro i ⟨hi, he⟩ L hL
    refine Eq.mpr (intsL_r a b i L _) ?_
    simp only [hold_eq]
    refine brV_by (fun h => ?_) (fun h => ?_)
    · have hlt : i < a.length := by have := of_decide_eq_true h; omega
      rw [i64_succ hlt ha, elemAt_iv a i hlt, elemAt_iv b i (by omega)]
      refine gb_by (dt (by omega)) (gb_by rfl (gb_by (dt (by omega)) (gb_by rfl (brV_by (fun h => ?_) (fun h => ?_)))))
      · have hne : a[i] ≠ b[i] := by
          have h : (a[i] != b[i]) = true := h
          simpa using h
        have : (a == b) = false := by rw [beq_eq_false_iff_ne]; exact take_ne hlt (by omega) hne
        rw [this]; exact Wk.refl _
      · have he2 : a[i] = b[i] := by
          have h : (a[i] != b[i]) = false := h
          simpa using h
        exact hL (i + 1) ⟨hlt, take_step hlt (by omega) he he2⟩ (by omega)
    · have hge : ¬ i < a.length := by have := of_decide_eq_false h; omega
      have : (a == b) = true := by rw [beq_iff_eq]; exact take_all (by omega) (by omega) he
      rw [this]
      exact leaveTo (toCut (Eq.mpr (intsF_r _) (Wk.refl _)))
theorem ints_ok : EntOk Try.prog intsE := by
  intro xs σ; simp only [intsE]; split
  · rename_i es s t fs s' t'
    intro hc
    simp only [Bool.and_eq_true, hold_eq] at hc
    obtain ⟨h1, h2, h3, h4, h5⟩ := hc
    exact pcall_of (.cons (wk_iv t h1 h3) (.cons (wk_iv t' h2 h4) (.refl _))) (by rw [hold_eq]; exact ints_c _ _ (by simpa using lenOk_of h5)) (by simp only [noOutL, AVal.noOut, iv_noOut, Bool.and_true]) (by simp only [noTokL, AVal.noTok, iv_noTok, Bool.and_true, Tag.below]) rfl rfl
  · trivial
theorem same_c (a b : List Ck) (ha : a.length ≤ 1000000) (hm : ∀ c ∈ a, c.2.1.length ≤ 1000000) : ACall Try.prog 19 [.slice (ckv a) 4 .ro, .slice (ckv b) 4 .ro] Sto.empty fun r _ => Wk r (.bool (a == b)) := by
  refine same_i a b _ (.of [intsE] rfl ⟨ints_ok, trivial⟩) ?_
  have hna : (ckv a).length = a.length := ckv_length a
  have hnb : (ckv b).length = b.length := ckv_length b
  simp only [hold_eq]
  refine brV_by (fun h => ?_) (fun h => ?_)
  · have hne : a.length ≠ b.length := by
      have : ¬ ((ckv a).length : Int) = ((ckv b).length : Int) := by simpa using h
      omega
    have : (a == b) = false := by rw [beq_eq_false_iff_ne]; rintro rfl; exact hne rfl
    rw [this]; exact Wk.refl _
  · have hlen : a.length = b.length := by
      have : ((ckv a).length : Int) = ((ckv b).length : Int) := by simpa using h
      omega
    refine loopV_intro (α := Nat) (fun i => sameL_S a b i) (fun i => i ≤ a.length ∧ a.take i = b.take i) (fun i => a.length - i) ?_ 0 ⟨Nat.zero_le _, rfl⟩
    rintro i ⟨hi, he⟩ L hL
    refine Eq.mpr (sameL_r a b i L _) ?_
    simp only [hold_eq]
    refine brV_by (fun h => ?_) (fun h => ?_)
    · have hlt : i < a.length := by have := of_decide_eq_true h; omega
      have hlt2 : i < b.length := by omega
      have hin : 0 ≤ (i : Int) ∧ (i : Int) < (ckv a).length := by omega
      have hin2 : 0 ≤ (i : Int) ∧ (i : Int) < (ckv b).length := by omega
      have hcm := hm _ (List.getElem_mem hlt)
      rw [i64_succ hlt (by omega), elemAt_ckv a i hlt, elemAt_ckv b i hlt2]
      have bad : a[i] ≠ b[i] → Wk (.bool false) (.bool (a == b)) := fun hne => by
        have : (a == b) = false := by rw [beq_eq_false_iff_ne]; exact take_ne hlt hlt2 hne
        rw [this]; exact Wk.refl _
      have s1 : List.map AVal.intOf (AVal.elems (List.getD (List.drop 1 (ckC a[i])) 0 .undef)) = a[i].2.1 := map_intOf_iv _
      have s2 : List.map AVal.intOf (AVal.elems (List.getD (List.drop 1 (ckC b[i])) 0 .undef)) = b[i].2.1 := map_intOf_iv _
      simp only [s1, s2]
      refine gb_by (dt hin) (gb_by rfl (gb_by (dt hin2) (gb_by rfl (brV_by' (fun h => ?_) (fun h => ?_)))))
      rotate_left
      · have h : (a[i].1 != b[i].1) = true := h
        exact bad fun e => by rw [e] at h; simp at h
      have q1 : a[i].1 = b[i].1 := by
        have h : (a[i].1 != b[i].1) = false := h
        simpa using h
      refine gb_by (dt hin) (gb_by rfl (gb_by (dt hin2) (gb_by rfl (brV_by' (fun h => ?_) (fun h => ?_)))))
      rotate_left
      · have h : (a[i].2.2.1 != b[i].2.2.1) = true := h
        exact bad fun e => by rw [e] at h; simp at h
      have q2 : a[i].2.2.1 = b[i].2.2.1 := by
        have h : (a[i].2.2.1 != b[i].2.2.1) = false := h
        simpa using h
      refine gb_by (dt hin) (gb_by rfl (gb_by (dt hin2) (gb_by rfl (brV_by' (fun h => ?_) (fun h => ?_)))))
      rotate_left
      · have h : (!(a[i].2.2.2 == b[i].2.2.2)) = true := h
        exact bad fun e => by rw [e] at h; simp at h
      have q3 : a[i].2.2.2 = b[i].2.2.2 := by
        have h : (!(a[i].2.2.2 == b[i].2.2.2)) = false := h
        simpa using h
      refine gb_by (dt hin) (gb_by rfl (gb_by (dt hin2) (gb_by rfl (gb_by ?_ (brV_by (fun h => ?_) (fun h => ?_))))))
      · exact and_tt (iv_isI64 _) (and_tt (iv_isI64 _) (lenOk_mk (by show (iv a[i].2.1).length ≤ _; rw [iv_length]; omega)))
      · have h : (!(a[i].2.1 == b[i].2.1)) = true := h
        exact bad fun e => by rw [e] at h; simp at h
      · have q4 : a[i].2.1 = b[i].2.1 := by
          have h : (!(a[i].2.1 == b[i].2.1)) = false := h
          simpa using h
        have he2 : a[i] = b[i] := Prod.ext q1 (Prod.ext q4 (Prod.ext q2 q3))
        exact hL (i + 1) ⟨hlt, take_step hlt (by omega) he he2⟩ (by omega)
    · have hge : ¬ i < a.length := by have := of_decide_eq_false h; omega
      have : (a == b) = true := by rw [beq_iff_eq]; exact take_all (by omega) (by omega) he
      rw [this]
      exact leaveTo (toCut (Eq.mpr (sameF_r _) (Wk.refl _)))
theorem same_ok : EntOk Try.prog sameE := by
  intro xs σ; simp only [sameE]; split
  · rename_i es s t fs s' t'
    intro hc
    simp only [Bool.and_eq_true, hold_eq] at hc
    obtain ⟨h1, h2, h3, h4, h5, h6⟩ := hc
    exact pcall_of (.cons (wk_cks t h1 h3) (.cons (wk_cks t' h2 h4) (.refl _))) (by rw [hold_eq]; exact same_c _ _ (by simpa using lenM_of h5) (ckM_of h6)) (by simp only [noOutL, AVal.noOut, ckv_noOut, Bool.and_true]) (by simp only [noTokL, AVal.noTok, ckv_noTok, Bool.and_true, Tag.below]) rfl rfl
  · trivial
/-! ### put, without, IDs -/
theorem putA_go (l : List Int) (x : Int) (o : List Int) (d : Bool) (i : Nat) (hi : i < l.length) (ho : o.length ≤ 2000000) (K : Exit → St → Prop) (h : K .normal (putI_S l x (o ++ [l[i]]) d i)) : vc Try.prog cPut putA_C K (putA_S l x o d i) := by
  have hn : (iv l).length = l.length := iv_length l
  have hov : (iv o).length = o.length := iv_length o
  refine Eq.mpr (putA_r l x o d i K) ?_
  rw [elemAt_iv l i hi]
  refine gb_by (dt (by omega)) (gb_by rfl (gb_by (dt ⟨dt ⟨rfl, rfl, by omega, by omega⟩, rfl⟩) ?_))
  rw [own_one o l[i], iv_oneG]
  exact h
theorem put_c (l : List Int) (x : Int) (hl : l.length ≤ 1000000) : ACall Try.prog 37 [.slice (iv l) 1 .ro, .int .i64 x] Sto.empty fun r _ => Wk r (.slice (iv (putR l x)) 1 .ro) := by
  refine put_i l x _ (.of_none rfl) ?_
  have hn : (iv l).length = l.length := iv_length l
  unfold putR
  refine loopV_intro (α := List Int × Bool × Nat) (fun s => putL_S l x s.1 s.2.1 s.2.2) (fun s => s.2.2 ≤ l.length ∧ s.1.length ≤ s.2.2 + 1 ∧ (s.2.1 = false → s.1.length ≤ s.2.2) ∧ s.1 ++ putF x s.2.1 (l.drop s.2.2) = putF x false l) (fun s => l.length - s.2.2) ?_ ([], false, 0) ⟨Nat.zero_le _, by simp, by simp, rfl⟩
  rintro ⟨o, d, i⟩ ⟨g1, g2, g3, g4⟩ L hL
  simp only at g1 g2 g3 g4
  have hov : (iv o).length = o.length := iv_length o
  refine Eq.mpr (putL_r l x o d i L _) ?_
  simp only [hold_eq]
  refine brV_by (fun h => ?_) (fun h => ?_)
  · have hlt : i < l.length := by have := of_decide_eq_true h; omega
    have ed : l.drop i = l[i] :: l.drop (i + 1) := List.drop_eq_getElem_cons hlt
    rw [ed, putF] at g4
    rw [elemAt_iv l i hlt]
    have nxt : ∀ (o' : List Int) (d' : Bool), o'.length ≤ i + 2 → (d' = false → o'.length ≤ i + 1) → o' ++ putF x d' (l.drop (i + 1)) = putF x false l → ∀ K : Exit → St → Prop, vc Try.prog cPut putI_C (thenK (fun s => L (St.norm [(5, 1)] [0, 1, 5, 6, 7] [] s)) K) (putI_S l x o' d' i) := by
      intro o' d' q1 q2 q3 K
      refine Eq.mpr (putI_r l x o' d' i _) ?_
      rw [i64_succ hlt (by omega)]
      exact hL (o', d', i + 1) ⟨hlt, q1, q2, q3⟩ (by simp only; omega)
    refine gb_by (dt (by omega)) (gb_by rfl (brV_by (fun hx => ?_) (fun hx => ?_)))
    · have hx : x < l[i] := of_decide_eq_true hx
      refine brV_by (fun hd => ?_) (fun hd => ?_)
      · have hd : d = false := by simpa using hd
        rw [if_pos ⟨hx, hd⟩] at g4
        have := g3 hd
        refine gb_by (dt ⟨dt ⟨trivial, trivial, by omega, by omega⟩, trivial⟩) (toCut ?_)
        rw [own_one o x, iv_one]
        refine putA_go l x (o ++ [x]) true i hlt (by simp; omega) _ (inBlock (toCut (nxt _ true (by simp; omega) (fun h => by cases h) ?_ _)))
        rw [← g4]; simp
      · have hd : d = true := by simpa using hd
        rw [if_neg (by simp [hd])] at g4
        refine toCut (putA_go l x o d i hlt (by omega) _ (inBlock (toCut (nxt _ d (by simp; omega) (fun h => by rw [hd] at h; cases h) ?_ _))))
        rw [← g4]; simp
    · have hx : ¬ x < l[i] := of_decide_eq_false hx
      rw [if_neg (by simp [hx])] at g4
      refine toCut (putA_go l x o d i hlt (by omega) _ (inBlock (toCut (nxt _ d (by simp; omega) (fun h => by have := g3 h; simp; omega) ?_ _))))
      rw [← g4]; simp
  · have hi' : i = l.length := by have := of_decide_eq_false h; omega
    subst hi'
    rw [List.drop_length, putF] at g4
    refine leaveTo (toCut (Eq.mpr (putB_r x o d _) ?_))
    refine brV_by (fun hd => ?_) (fun hd => ?_)
    · have hd : d = false := by simpa using hd
      rw [if_neg (by simp [hd])] at g4
      refine gb_by (dt ⟨dt ⟨rfl, rfl, by omega, by omega⟩, rfl⟩) (toCut ?_)
      rw [own_one o x, iv_one, g4]
      exact Eq.mpr (putF_r _ _) (Wk.ro _ _ _)
    · have hd : d = true := by simpa using hd
      rw [if_pos hd, List.append_nil] at g4
      refine toCut (Eq.mpr (putF_r _ _) ?_)
      rw [← g4]; exact Wk.ro _ _ _
theorem put_ok : EntOk Try.prog putE := by
  intro xs σ; simp only [putE]; split
  · rename_i es s t x
    intro hc
    simp only [Bool.and_eq_true] at hc
    obtain ⟨h1, h2, h3⟩ := hc
    exact pcall_of (.cons (wk_iv t h1 h2) (.refl _)) (put_c _ x (by simpa using lenM_of h3)) (by simp only [noOutL, AVal.noOut, iv_noOut, Bool.and_true]) (by simp only [noTokL, AVal.noTok, iv_noTok, Bool.and_true, Tag.below]) (by simp only [AVal.noOut, iv_noOut]) (by simp only [AVal.noTok, iv_noTok, Tag.below, Bool.and_true])
  · trivial
theorem without_c (l : List Int) (x : Int) (hl : l.length ≤ 1000000) : ACall Try.prog 39 [.slice (iv l) 1 .ro, .int .i64 x] Sto.empty fun r _ => Wk r (.slice (iv (remR l x)) 1 .ro) := by
  refine without_i l x _ (.of_none rfl) ?_
  have hn : (iv l).length = l.length := iv_length l
  have hrS : remR l x = remS l x := rfl
  rw [hrS]
  refine loopV_intro (α := List Int × Nat) (fun s => withoutL_S l x s.1 s.2) (fun s => s.2 ≤ l.length ∧ s.1 = remS (l.take s.2) x) (fun s => l.length - s.2) ?_ ([], 0) ⟨Nat.zero_le _, rfl⟩
  rintro ⟨o, i⟩ ⟨g1, g2⟩ L hL
  simp only at g1 g2
  have hov : (iv o).length = o.length := iv_length o
  have hol : o.length ≤ i := by rw [g2]; exact Nat.le_trans (List.length_filter_le _ _) (List.length_take_le _ _)
  refine Eq.mpr (withoutL_r l x o i L _) ?_
  simp only [hold_eq]
  refine brV_by (fun h => ?_) (fun h => ?_)
  · have hlt : i < l.length := by have := of_decide_eq_true h; omega
    have e1 := remS_take1 l x i hlt
    rw [elemAt_iv l i hlt]
    have nxt : ∀ (o' : List Int), o' = remS (l.take (i + 1)) x → ∀ K : Exit → St → Prop, vc Try.prog cWithout withoutI_C (thenK (fun s => L (St.norm [(5, 1)] [0, 1, 5, 6] [] s)) K) (withoutI_S l x o' i) := by
      intro o' q K
      refine Eq.mpr (withoutI_r l x o' i _) ?_
      rw [i64_succ hlt (by omega)]
      exact hL (o', i + 1) ⟨hlt, q⟩ (by simp only; omega)
    refine gb_by (dt (by omega)) (gb_by rfl (brV_by (fun hx => ?_) (fun hx => ?_)))
    · have hx : l[i] ≠ x := by
        have hx : (l[i] != x) = true := hx
        simpa using hx
      rw [if_neg hx, ← g2] at e1
      refine gb_by (dt (by omega)) (gb_by rfl (gb_by (dt ⟨dt ⟨trivial, trivial, by omega, by omega⟩, trivial⟩) (toCut ?_)))
      rw [own_one o l[i], iv_oneG]
      exact nxt (o ++ [l[i]]) e1.symm _
    · have hx : l[i] = x := by
        have hx : (l[i] != x) = false := hx
        simpa using hx
      rw [if_pos hx, List.append_nil, ← g2] at e1
      exact toCut (nxt o e1.symm _)
  · have hi' : i = l.length := by have := of_decide_eq_false h; omega
    rw [hi', List.take_length] at g2
    refine leaveTo (toCut (Eq.mpr (withoutF_r o _) ?_))
    rw [g2]; exact Wk.ro _ _ _
theorem without_ok : EntOk Try.prog withoutE := by
  intro xs σ; simp only [withoutE]; split
  · rename_i es s t x
    intro hc
    simp only [Bool.and_eq_true] at hc
    obtain ⟨h1, h2, h3⟩ := hc
    exact pcall_of (.cons (wk_iv t h1 h2) (.refl _)) (without_c _ x (by simpa using lenM_of h3)) (by simp only [noOutL, AVal.noOut, iv_noOut, Bool.and_true]) (by simp only [noTokL, AVal.noTok, iv_noTok, Bool.and_true, Tag.below]) (by simp only [AVal.noOut, iv_noOut]) (by simp only [AVal.noTok, iv_noTok, Tag.below, Bool.and_true])
  · trivial
theorem idsR_c (l : List Ck) (hl : l.length ≤ 1000000) (hc : ∀ c ∈ l, c.2.1.length ≤ 1000000) : ACall Try.prog 21 [.slice (ckv l) 4 .ro] Sto.empty fun v _ => Wk v (.slice (iv (idsC l)) 1 .ro) := by
  refine idsR_i l _ (.of_none rfl) ?_
  have hn : (ckv l).length = l.length := ckv_length l
  refine loopV_intro (α := List Int × Nat) (fun s => idsRL_S l s.1 s.2) (fun s => s.2 ≤ l.length ∧ s.1 = idsC (l.take s.2)) (fun s => l.length - s.2) ?_ ([], 0) ⟨Nat.zero_le _, rfl⟩
  rintro ⟨o, i⟩ ⟨g1, g2⟩ L hL
  simp only at g1 g2
  refine Eq.mpr (idsRL_r l o i L _) ?_
  simp only [hold_eq]
  refine brV_by (fun h => ?_) (fun h => ?_)
  · have hlt : i < l.length := by have := of_decide_eq_true h; omega
    have hcl := hc _ (List.getElem_mem hlt)
    have hol := idsC_len (l.take i) 1000000 fun c hx => hc c (List.mem_of_mem_take hx)
    have htl : (l.take i).length = i := by rw [List.length_take]; omega
    rw [htl, ← g2] at hol
    refine loopV_intro (α := List Int × Nat) (fun s => idsRM_S l s.1 i s.2) (fun s => s.2 ≤ l[i].2.1.length ∧ s.1 = o ++ l[i].2.1.take s.2) (fun s => l[i].2.1.length - s.2) ?_ (o, 0) ⟨Nat.zero_le _, by simp⟩
    rintro ⟨u, k⟩ ⟨k1, k2⟩ M hM
    simp only at k1 k2
    refine Eq.mpr (idsRM_r l u i k M _) ?_
    have hil : (iv l[i].2.1).length = l[i].2.1.length := iv_length _
    have huv : (iv u).length = u.length := iv_length u
    have hul : u.length = o.length + k := by rw [k2, List.length_append, List.length_take]; omega
    have ee : AVal.elems (List.getD (List.drop 1 (ckC l[i])) 0 .undef) = iv l[i].2.1 := rfl
    rw [elemAt_ckv l i hlt, ee]
    simp only [hold_eq]
    refine gb_by (dt (by omega)) (gb_by rfl (brV_by (fun h => ?_) (fun h => ?_)))
    · have hk : k < l[i].2.1.length := by have := of_decide_eq_true h; omega
      rw [elemAt_iv _ k hk, i64_succ hk (by omega)]
      refine gb_by (dt (by omega)) (gb_by rfl (gb_by (dt (by omega)) (gb_by rfl (gb_by (dt ⟨dt ⟨trivial, trivial, by omega, by omega⟩, trivial⟩) ?_))))
      rw [own_one u l[i].2.1[k], iv_oneG]
      exact hM (u ++ [l[i].2.1[k]], k + 1) ⟨hk, by simp only; rw [k2, List.append_assoc, List.take_succ_eq_append_getElem hk]⟩ (by simp only; omega)
    · have hk : k = l[i].2.1.length := by have := of_decide_eq_false h; omega
      rw [hk, List.take_length] at k2
      refine leaveK (inBlock (toCut ?_))
      refine Eq.mpr (idsRI_r l u i _) ?_
      rw [i64_succ hlt (by omega)]
      exact hL (u, i + 1) ⟨hlt, by simp only; rw [idsC_take1 l i hlt, k2, g2]⟩ (by simp only; omega)
  · have hi' : i = l.length := by have := of_decide_eq_false h; omega
    rw [hi', List.take_length] at g2
    refine leaveTo (toCut (Eq.mpr (idsRF_r o _) ?_))
    rw [g2]; exact Wk.ro _ _ _
theorem idsR_ok : EntOk Try.prog idsRE := by
  intro xs σ; simp only [idsRE]; split
  · rename_i es s t
    intro hc
    simp only [Bool.and_eq_true] at hc
    obtain ⟨h1, h2, h3, h4⟩ := hc
    exact pcall_of (.cons (wk_cks t h1 h2) (.refl _)) (idsR_c _ (by simpa using lenM_of h3) (ckM_of h4)) (by simp only [noOutL, AVal.noOut, ckv_noOut, Bool.and_true]) (by simp only [noTokL, AVal.noTok, ckv_noTok, Bool.and_true, Tag.below]) (by simp only [AVal.noOut, iv_noOut]) (by simp only [AVal.noTok, iv_noTok, Tag.below, Bool.and_true])
  · trivial
end Go.Proofs.Ytjdjecaclbdhhaa
