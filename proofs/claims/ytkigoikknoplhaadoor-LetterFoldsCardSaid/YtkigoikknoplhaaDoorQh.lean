/-
  Seat 01 (letter): contract of the reference's Like.
-/
import Derived.Test.YtkigoikknoplhaaDoorQg
namespace Go.Proofs.YtkigoikknoplhaaDoor
open Go.AL
set_option linter.unusedSimpArgs false
set_option linter.unusedVariables false
set_option maxHeartbeats 2000000
set_option maxRecDepth 20000

theorem own_push (σ : Sto) (n : Nat) : (σ.pushOwn n).own σ.nown = some n := by simp [Sto.pushOwn]
theorem own_set (σ : Sto) (p n : Nat) : (σ.setOwn p n).own p = some n := by simp [Sto.setOwn]
theorem likeS_k (t q : List Int) (f g : List Bool) (p k r i : Nat) (b : Bool) (σ : Sto) (ho : σ.own r = some g.length) (hl : g.length ≤ 1000000) (K : Exit → St → Prop) (h : ∀ x, K .normal (St.mk 94 [(5, .slice (rv t) 1 .ro), (6, .slice (rv q) 1 .ro), (7, .slice (bvv f) 1 (.own p)), (9, .int .i64 (k : Int)), (10, .slice (bvv (g ++ [b])) 1 (.own r)), (11, .int .i64 (i : Int)), (12, x)] [] [] (σ.setOwn r (g.length + 1)))) : vc Tryd.prog cLikeR likeRS_C K (likeRS_S t q f g p k r i b σ) := by
  refine Eq.mpr (likeRS_r t q f g p k r i b σ K) ?_
  have hg : (bvv g).length = g.length := bvv_length g
  have e : bvv g ++ [AVal.bool b] = bvv (g ++ [b]) := by simp [bvv]
  rw [hg, e]
  exact gb_by (dtU ⟨dtU ⟨rfl, ho, by omega, by omega⟩, rfl⟩) (h _)
theorem rowF_take (t : List Int) (r : Int) (f : List Bool) {i : Nat} (h : i < t.length + 1) : (rowF t r f).take (i + 1) = (rowF t r f).take i ++ [rowB t r f i] := by
  rw [List.take_add_one, List.getElem?_eq_getElem (by rw [rowF_length]; exact h), rowF_get t r f h]; rfl
theorem rowF_tl (t : List Int) (r : Int) (f : List Bool) {i : Nat} (h : i ≤ t.length + 1) : ((rowF t r f).take i).length = i := by
  rw [List.length_take, rowF_length]; omega
theorem row0_take (t : List Int) {i : Nat} (h : i < t.length + 1) : (row0 t).take (i + 1) = (row0 t).take i ++ [decide (i = 0)] := by
  have hl : (row0 t).length = t.length + 1 := by simp [row0]
  rw [List.take_add_one, List.getElem?_eq_getElem (by rw [hl]; exact h)]
  simp [row0]
theorem likeR_c (s q : Txt) (hs : s.length ≤ 1000000) (hq : q.length ≤ 1000000) : ACall Tryd.prog 17 [.str s, .str q] Sto.empty fun v _ => Wk v (.bool (AL.likeR (runeL s) (runeL q))) := by
  refine likeR_i s q _ (.of [runesE] rfl ⟨runes_ok, trivial⟩) ?_
  intro t ht
  refine gb_by (lenT_mk hs) ?_
  intro u hu
  refine gb_by (lenT_mk hq) ?_
  have htl : t.length ≤ s.length := by rw [ht]; exact runeL_len s
  have hul : u.length ≤ q.length := by rw [hu]; exact runeL_len q
  rw [← ht, ← hu]
  have hrt : (rv t).length = t.length := rv_length t
  have hru : (rv u).length = u.length := rv_length u
  have h00 : (row0 t).length = t.length + 1 := by simp [row0]
  refine loopV_intro (α := Nat) (fun i => likeRL_S t u ((row0 t).take i) i) (fun i => i ≤ t.length + 1) (fun i => t.length + 1 - i) ?_ 0 (Nat.zero_le _)
  rintro i hi L hL
  have hfl : ((row0 t).take i).length = i := by rw [List.length_take, h00]; omega
  have hfv : (bvv ((row0 t).take i)).length = i := by rw [bvv_length, hfl]
  refine Eq.mpr (likeRL_r t u ((row0 t).take i) i L _) ?_
  simp only [hold_eq]
  refine brV_by (fun h => ?_) (fun h => ?_)
  · have hlt : i < t.length + 1 := by have := of_decide_eq_true h; omega
    have ez : ((i : Int) == 0) = decide (i = 0) := by rw [Bool.eq_iff_iff]; simp
    have e : bvv ((row0 t).take i) ++ [AVal.bool (decide (i = 0))] = bvv ((row0 t).take (i + 1)) := by rw [row0_take t hlt]; simp [bvv]
    have e2 : (bvv ((row0 t).take i)).length + 1 = (bvv ((row0 t).take (i + 1))).length := by rw [← e]; simp
    rw [ez, e, setOwn_e1, e2]
    refine gb_by (dtU ⟨dtU ⟨by trivial, by trivial, by omega, by omega⟩, by trivial⟩) ?_
    refine toCut (Eq.mpr (likeRI_r t u _ i _) ?_)
    rw [i64_succ hlt (by omega)]
    exact hL (i + 1) hlt (by omega)
  have hge : i = t.length + 1 := by have := of_decide_eq_false h; omega
  subst hge
  have e0 : (row0 t).take (t.length + 1) = row0 t := List.take_of_length_le (by omega)
  rw [e0] at hfv ⊢
  refine leaveTo (toCut (Eq.mpr (likeRA_r t u (row0 t) _) ?_))
  refine loopV_intro (α := Nat × Nat × Sto) (fun x => likeRK_S t u (rowsF t (u.take x.1)) x.2.1 x.1 x.2.2) (fun x => x.1 ≤ u.length) (fun x => u.length - x.1) ?_ (0, 0, Sto.pushOwn Sto.empty (bvv (row0 t)).length) (Nat.zero_le _)
  rintro ⟨k, p, σ⟩ hk M hM
  simp only at hk
  refine Eq.mpr (likeRK_r t u (rowsF t (u.take k)) p k σ M _) ?_
  simp only [hold_eq]
  have hff : (rowsF t (u.take k)).length = t.length + 1 := rowsF_length t _
  refine brV_by (fun h1 => ?_) (fun h1 => ?_)
  · have hlk : k < u.length := by have := of_decide_eq_true h1; omega
    have htk : u.take (k + 1) = u.take k ++ [u[k]] := by rw [List.take_add_one, List.getElem?_eq_getElem hlk]; rfl
    have nxt := fun p' σ' => hM (k + 1, p', σ') hlk (by simp only; omega)
    simp only [htk, rowsF_snoc] at nxt
    generalize rowsF t (u.take k) = f at *
    have hfv : (bvv f).length = t.length + 1 := by rw [bvv_length, hff]
    refine loopV_intro (α := Nat × Sto) (fun x => likeRM_S t u f ((rowF t u[k] f).take x.1) p k σ.nown x.1 x.2) (fun x => x.1 ≤ t.length + 1 ∧ x.2.own σ.nown = some x.1) (fun x => t.length + 1 - x.1) ?_ (0, σ.pushOwn 0) ⟨Nat.zero_le _, own_push σ 0⟩
    rintro ⟨i, τ⟩ ⟨hi, ho⟩ N hN
    simp only at hi ho
    have hgl : ((rowF t u[k] f).take i).length = i := rowF_tl t u[k] f hi
    refine Eq.mpr (likeRM_r t u f ((rowF t u[k] f).take i) p k σ.nown i τ N _) ?_
    simp only [hold_eq]
    rw [rv_at hlk]
    refine brV_by (fun h2 => ?_) (fun h2 => ?_)
    · have hlt : i < t.length + 1 := by have := of_decide_eq_true h2; omega
      have hi1 : IntKind.i64.wrap ((i : Int) + 1) = ((i + 1 : Nat) : Int) := i64_succ hlt (by omega)
      have ho' : τ.own σ.nown = some ((rowF t u[k] f).take i).length := by rw [hgl]; exact ho
      have nx : ∀ b : Bool, b = rowB t u[k] f i → N (likeRM_S t u f ((rowF t u[k] f).take i ++ [b]) p k σ.nown (i + 1) (τ.setOwn σ.nown (((rowF t u[k] f).take i).length + 1))) := fun b hb => by
        rw [hb, ← rowF_take t u[k] f hlt]
        refine hN (i + 1, _) ⟨hlt, ?_⟩ (by simp only; omega)
        show (τ.setOwn σ.nown _).own σ.nown = _
        rw [own_set, hgl]
      refine gb_by (dt (by omega)) (gb_by (rv_at1 hlk) (brV_by (fun h3 => ?_) (fun h3 => ?_)))
      · have h3 : u[k] = 42 := by simpa using h3
        have hb : rowB t u[k] f i = (f.take (i + 1)).any id := by rw [rowB, if_pos h3]
        refine loopV_intro (α := Nat) (fun j => likeRP_S t u f ((rowF t u[k] f).take i) p k σ.nown i ((f.take j).any id) j τ) (fun j => j ≤ i + 1) (fun j => i + 1 - j) ?_ 0 (Nat.zero_le _)
        rintro j hj R hR
        refine Eq.mpr (likeRP_r t u f ((rowF t u[k] f).take i) p k σ.nown i ((f.take j).any id) j τ R _) ?_
        simp only [hold_eq]
        refine brV_by (fun h4 => ?_) (fun h4 => ?_)
        · have hlj : j < i + 1 := by have := of_decide_eq_true h4; omega
          have hj1 : IntKind.i64.wrap ((j : Int) + 1) = ((j + 1 : Nat) : Int) := i64_succ hlj (by omega)
          have hjn := hR (j + 1) hlj (by omega)
          rw [any_take f (show j < f.length by omega)] at hjn
          rw [bvv_at (show j < f.length by omega)]
          refine brV_by' (fun h5 => ?_) (fun h5 => ?_)
          · rw [h5, Bool.false_or] at hjn
            refine gb_by (dt (by omega)) (gb_by (bvv_at1 (by omega)) ?_)
            refine toCut (Eq.mpr (likeRQ_r t u f ((rowF t u[k] f).take i) p k σ.nown i _ j τ _) ?_)
            rw [hj1]
            exact hjn
          · rw [h5, Bool.true_or] at hjn
            refine toCut (Eq.mpr (likeRQ_r t u f ((rowF t u[k] f).take i) p k σ.nown i _ j τ _) ?_)
            rw [hj1]
            exact hjn
        · have hje : j = i + 1 := by have := of_decide_eq_false h4; omega
          subst hje
          refine leaveTo (toCut (likeS_k t u f ((rowF t u[k] f).take i) p k σ.nown i _ τ ho' (by omega) _ (fun x => inBlock (toCut (Eq.mpr (likeRN_r t u f _ p k σ.nown i _ _) ?_)))))
          rw [hi1]
          exact nx _ hb.symm
      · have h3 : ¬ u[k] = 42 := by simpa using h3
        refine brV_by (fun h4 => ?_) (fun h4 => ?_)
        · have h4 : 0 < i := by have := of_decide_eq_true h4; omega
          have hm1 : IntKind.i64.wrap ((i : Int) - 1) = ((i - 1 : Nat) : Int) := by rw [wrap_i64 (by omega) (by omega)]; omega
          rw [hm1, rv_at (show i - 1 < t.length by omega), bvv_at (show i - 1 < f.length by omega)]
          have hb : rowB t u[k] f i = ((u[k] == 63 || u[k] == t[i - 1]'(by omega)) && f[i - 1]'(by omega)) := by
            rw [rowB, if_neg h3, decide_eq_true h4, Bool.true_and]
            simp [List.getD, List.getElem?_eq_getElem (show i - 1 < t.length by omega), List.getElem?_eq_getElem (show i - 1 < f.length by omega)]
          refine gb_by (dt (by omega)) (gb_by (rv_at1 hlk) (brV_by' (fun h5 => ?_) (fun h5 => ?_)))
          · have h5 : (u[k] == 63) = false := h5
            rw [h5, Bool.false_or] at hb
            refine gb_by (dt (by omega)) (gb_by (rv_at1 hlk) (gb_by (dt (by omega)) (gb_by (rv_at1 (by omega)) (brV_by (fun h6 => ?_) (fun h6 => ?_)))))
            · have h6 : (u[k] == t[i - 1]'(by omega)) = true := h6
              rw [h6, Bool.true_and] at hb
              refine gb_by (dt (by omega)) (gb_by (bvv_at1 (by omega)) ?_)
              refine toCut (likeS_k t u f ((rowF t u[k] f).take i) p k σ.nown i _ τ ho' (by omega) _ (fun x => inBlock (toCut (Eq.mpr (likeRN_r t u f _ p k σ.nown i _ _) ?_))))
              rw [hi1]
              exact nx _ hb.symm
            · have h6 : (u[k] == t[i - 1]'(by omega)) = false := h6
              rw [h6, Bool.false_and] at hb
              refine toCut (likeS_k t u f ((rowF t u[k] f).take i) p k σ.nown i _ τ ho' (by omega) _ (fun x => inBlock (toCut (Eq.mpr (likeRN_r t u f _ p k σ.nown i _ _) ?_))))
              rw [hi1]
              exact nx _ hb.symm
          · have h5 : (u[k] == 63) = true := h5
            rw [h5, Bool.true_or, Bool.true_and] at hb
            refine gb_by (dt (by omega)) (gb_by (bvv_at1 (by omega)) ?_)
            refine toCut (likeS_k t u f ((rowF t u[k] f).take i) p k σ.nown i _ τ ho' (by omega) _ (fun x => inBlock (toCut (Eq.mpr (likeRN_r t u f _ p k σ.nown i _ _) ?_))))
            rw [hi1]
            exact nx _ hb.symm
        · have h4 : i = 0 := by have := of_decide_eq_false h4; omega
          refine toCut (likeS_k t u f ((rowF t u[k] f).take i) p k σ.nown i _ τ ho' (by omega) _ (fun x => inBlock (toCut (Eq.mpr (likeRN_r t u f _ p k σ.nown i _ _) ?_))))
          rw [hi1]
          refine nx _ ?_
          rw [rowB, if_neg h3]; subst h4; rfl
    · have hge : i = t.length + 1 := by have := of_decide_eq_false h2; omega
      subst hge
      have hG : (rowF t u[k] f).take (t.length + 1) = rowF t u[k] f := List.take_of_length_le (by rw [rowF_length]; exact Nat.le_refl _)
      rw [hG]
      refine leaveTo (toCut (Eq.mpr (likeRT_r t u (rowF t u[k] f) k σ.nown τ _) ?_))
      refine inBlock (toCut (Eq.mpr (likeRJ_r t u (rowF t u[k] f) σ.nown k τ _) ?_))
      rw [i64_succ hlk (by omega)]
      exact nxt _ _
  · have hke : k = u.length := by have := of_decide_eq_false h1; omega
    subst hke
    rw [List.take_length] at hff ⊢
    refine leaveTo (toCut (Eq.mpr (likeRF_r t (rowsF t u) p σ _) ?_))
    have hfv : (bvv (rowsF t u)).length = t.length + 1 := by rw [bvv_length, hff]
    rw [hrt, bvv_at (show t.length < (rowsF t u).length by omega)]
    refine gb_by (dt (by omega)) (gb_by (bvv_at1 (by omega)) ?_)
    have : AL.likeR t u = (rowsF t u)[t.length]'(by omega) := by
      rw [AL.likeR]
      simp [List.getD, List.getElem?_eq_getElem (show t.length < (rowsF t u).length by omega)]
    rw [this]; exact Wk.refl _
theorem likeR_ok : EntOk Tryd.prog likeRE := by
  intro xs σ; simp only [likeRE]; split
  · rename_i s q
    intro hc
    rw [Bool.and_eq_true] at hc
    exact pcall_of (.refl _) (by rw [hold_eq]; exact likeR_c s q (lenT_of hc.1) (lenT_of hc.2)) rfl rfl rfl rfl
  · trivial
end Go.Proofs.YtkigoikknoplhaaDoor
