/-
  Seat 12 (limbo): contracts: the reference's Epochs.
-/
import Derived.Test.YtakidnohmfebmaaMd
namespace Go.Proofs.Ytakidnohmfebmaa
open Go.AL
set_option linter.unusedSimpArgs false
set_option linter.unusedVariables false
set_option maxHeartbeats 4000000
set_option maxRecDepth 20000
theorem setP (σ : Sto) (o a : Nat) (x : AObj) : (σ.set o x).pushOwn a = (σ.pushOwn a).set o x := rfl
theorem setO (σ : Sto) (o p n : Nat) (x : AObj) : (σ.set o x).setOwn p n = (σ.setOwn p n).set o x := rfl
theorem setN (σ : Sto) (o : Nat) (x : AObj) : (σ.set o x).nown = σ.nown := rfl
theorem setW (σ : Sto) (o p : Nat) (x : AObj) : (σ.set o x).own p = σ.own p := rfl
theorem thenN {f : St → Prop} {K : Exit → St → Prop} {st : St} (h : f st) : thenK f K .normal st := h
def insE (e : Int) : List Int → List Int
  | [] => [e]
  | x :: r => if x < e then x :: insE e r else if x = e then x :: r else e :: x :: r
def epl (l : List (Key × Int)) : List Int := l.foldl (fun o x => insE x.2 o) []
theorem insE_at {e : Int} : ∀ {o : List Int} {a : Nat}, a ≤ o.length → (∀ x ∈ o.take a, x < e) → (∀ h : a < o.length, ¬ o[a] < e) →
    ((∃ h : a < o.length, o[a] = e) → insE e o = o) ∧ ((¬ ∃ h : a < o.length, o[a] = e) → insE e o = o.take a ++ e :: o.drop a)
  | [], a, ha, _, _ => by
    have : a = 0 := by simpa using ha
    subst this
    exact ⟨fun ⟨h, _⟩ => by simp at h, fun _ => rfl⟩
  | x :: r, 0, ha, hp, hs => by
    have h0 : ¬ x < e := hs (by simp)
    refine ⟨fun ⟨_, h⟩ => ?_, fun h => ?_⟩
    · have h : x = e := h
      rw [insE, if_neg h0, if_pos h]
    · have h : ¬ x = e := fun hh => h ⟨by simp, hh⟩
      rw [insE, if_neg h0, if_neg h]; rfl
  | x :: r, a + 1, ha, hp, hs => by
    have hx : x < e := hp x (by simp)
    have ih := insE_at (o := r) (a := a) (by simpa using ha) (fun y hy => hp y (by simp [hy])) (fun h => hs (by simpa using h))
    refine ⟨fun ⟨h1, h2⟩ => ?_, fun h => ?_⟩
    · rw [insE, if_pos hx, ih.1 ⟨by simpa using h1, by simpa using h2⟩]
    · rw [insE, if_pos hx, ih.2 fun ⟨h1, h2⟩ => h ⟨by simpa using h1, by simpa using h2⟩]
      rfl
theorem insE_length (e : Int) : ∀ o : List Int, (insE e o).length ≤ o.length + 1
  | [] => by simp [insE]
  | x :: r => by
    have := insE_length e r
    unfold insE
    split
    · simp only [List.length_cons]; omega
    · split <;> simp only [List.length_cons] <;> omega
theorem epl_length (l : List (Key × Int)) : (epl l).length ≤ l.length := by
  have : ∀ (l : List (Key × Int)) (o : List Int), (l.foldl (fun o x => insE x.2 o) o).length ≤ o.length + l.length := by
    intro l
    induction l with
    | nil => intro o; simp
    | cons x l ih =>
      intro o
      have h1 := ih (insE x.2 o)
      have h2 := insE_length x.2 o
      simp only [List.foldl_cons, List.length_cons]
      omega
  have := this l []
  simpa [epl] using this
theorem epl_take {l : List (Key × Int)} {i : Nat} (h : i < l.length) : epl (l.take (i + 1)) = insE l[i].2 (epl (l.take i)) := by
  rw [List.take_succ_eq_append_getElem h]
  simp only [epl, List.foldl_append, List.foldl_cons, List.foldl_nil]
theorem ivT_take (l : List Int) (n : Nat) : (iv l).take n = iv (l.take n) := by simp [iv]
theorem ivT_drop (l : List Int) (n : Nat) : (iv l).drop n = iv (l.drop n) := by simp [iv]
theorem iv_snoc (l : List Int) (e : Int) : iv (l ++ [e]) = iv l ++ [AVal.int .i64 e] := by simp [iv]
theorem set_same0 {σ : Sto} {o : Nat} {x : AObj} (h : σ.obj o = some x) : σ.set o x = σ := by
  have : (σ.set o x).obj = σ.obj := by
    funext n
    simp only [Sto.set]
    split
    · rename_i e; rw [e]; exact h.symm
    · rfl
  cases σ
  simp only [Sto.set] at this ⊢
  rw [this]
theorem sealL_iv (m : Nat) : ∀ l : List Int, sealL m (iv l) = iv l
  | [] => rfl
  | x :: l => by
    have := sealL_iv m l
    simp only [iv, List.map_cons, sealL, AVal.sealT] at this ⊢
    rw [this]
/-- The permissions that were are as they were. -/
def OwnBelow (n : Nat) (ow : Nat → Option Nat) (σ : Sto) : Prop := n ≤ σ.nown ∧ ∀ p, p < n → σ.own p = ow p
theorem OwnBelow.push {n : Nat} {ow : Nat → Option Nat} {σ : Sto} (h : OwnBelow n ow σ) (a b : Nat) : OwnBelow n ow ((σ.pushOwn a).setOwn σ.nown b) := by
  refine ⟨by have := h.1; simp only [Sto.pushOwn, Sto.setOwn]; omega, fun p hp => ?_⟩
  have h1 := h.1
  have hne : p ≠ σ.nown := by omega
  simp only [Sto.pushOwn, Sto.setOwn, if_neg hne]
  exact h.2 p hp
theorem epsR_c (N : Nat) (l : List (Key × Int)) (hl : l.length ≤ 100000000) :
    ACall Try.prog 19 [.ptr (.out 0) 0] (refS N l) fun r τ => r = .slice (iv (epl l)) 1 .ro ∧ τ = refS N l := by
  have e0 : (refS N l).set 0 (.cells [.slice (itv l) 5 (.own N)]) = refS N l := set_same0 rfl
  have key : ACall Try.prog 19 [.ptr (.out 0) 0] ((refS N l).set 0 (.cells [.slice (itv l) 5 (.own N)])) fun r τ => r = .slice (iv (epl l)) 1 .ro ∧ ∃ σ, τ = σ.set 0 (.cells [.slice (itv l) 5 (.own N)]) ∧ OwnBelow (N + 1) (refS N l).own σ := by
    refine epsR_i N l (refS N l) _ (.of_none rfl) ?_
    refine loopV_intro (α := List Int × Nat × Sto) (fun x => epsRL_S N l x.1 x.2.1 x.2.2) (fun x => x.2.1 ≤ l.length ∧ x.1 = epl (l.take x.2.1) ∧ OwnBelow (N + 1) (refS N l).own x.2.2) (fun x => l.length - x.2.1) ?_ ([], 0, refS N l) ⟨Nat.zero_le _, rfl, Nat.le_refl _, fun _ _ => rfl⟩
    rintro ⟨o, i, σ⟩ ⟨hi, ho, hG⟩ L hL
    simp only [] at hi ho hG
    refine Eq.mpr (epsRL_r N l o i σ L _) ?_
    simp only [hold_eq, itv_length]
    have hol : o.length ≤ 100000000 := by
      have := epl_length (l.take i)
      rw [← ho, List.length_take] at this
      omega
    refine brV_by (fun h => ?_) (fun h => ?_)
    · have hlt : i < l.length := by simpa using h
      rw [elemAt_itv l i hlt]
      have hstep := epl_take hlt
      rw [← ho] at hstep
      generalize hkey : l[i] = x at hstep
      obtain ⟨xk, e⟩ := x
      simp only [itemC, List.drop_succ_cons, List.drop_zero, List.getD_cons_zero, AVal.intOf]
      have hw := i64_succ hlt (by omega)
      have hnext : ∀ σ', OwnBelow (N + 1) (refS N l).own σ' → L (epsRL_S N l (insE e o) (i + 1) σ') := fun σ' h' => hL (insE e o, i + 1, σ') ⟨hlt, hstep.symm, h'⟩ (by simp only []; omega)
      simp only [epsRL_S] at hnext
      rw [← hw] at hnext
      refine gb_by (dt (by omega)) (gb_by rfl ?_)
      refine loopV_intro (α := Nat) (fun a => epsRI_S N l o i a e σ) (fun a => a ≤ o.length ∧ ∀ x ∈ o.take a, x < e) (fun a => o.length - a) ?_ 0 ⟨Nat.zero_le _, fun x hx => by simp at hx⟩
      rintro a ⟨ha, hpre⟩ L2 hL2
      refine Eq.mpr (epsRI_r N l o i a e σ L2 _) ?_
      simp only [hold_eq, iv_length]
      refine brV_by (fun h => ?_) (fun h => ?_)
      · have hlt2 : a < o.length := by simpa using h
        rw [elemAt_iv o a hlt2]
        simp only [List.getD_cons_zero, AVal.intOf]
        refine gb_by (dt (by omega)) (gb_by rfl (brV_by (fun h2 => ?_) (fun h2 => ?_)))
        · have h2 : o[a] < e := by simpa using h2
          have hw2 := i64_succ hlt2 (by omega)
          have := hL2 (a + 1) ⟨hlt2, fun x hx => ?_⟩ (by omega)
          · simp only [epsRI_S] at this
            rw [hw2]
            exact this
          · rw [List.take_succ_eq_append_getElem hlt2] at hx
            rcases List.mem_append.1 hx with h3 | h3
            · exact hpre x h3
            · simp at h3; subst h3; exact h2
        · have hstop : ∀ h : a < o.length, ¬ o[a] < e := fun _ => by simpa using h2
          clear hL2 h2 h
          refine leaveTo (toCut ?_)
          refine Eq.mpr (epsRM_r N l o i a e σ _) ?_
          simp only [hold_eq, iv_length, Int.toNat_natCast, Nat.sub_zero, List.drop_zero]
          refine brV_by (fun h => ?_) (fun h => ?_)
          · have hlt : a < o.length := by simpa using h
            rw [elemAt_iv o a hlt]
            simp only [List.getD_cons_zero, AVal.intOf]
            refine gb_by (dt (by omega)) (gb_by rfl (brV_by (fun h2 => ?_) (fun h2 => ?_)))
            · have h2 : o[a] = e := by simpa using h2
              have hr : insE e o = o := insE_at ha hpre hstop |>.1 ⟨hlt, h2⟩
              refine leaveTo (toCut (Eq.mpr (epsRS_r N l o i σ _) ?_))
              rw [hr] at hnext
              exact hnext σ hG
            · have h2 : ¬ o[a] = e := by simpa using h2
              have hr : insE e o = o.take a ++ e :: o.drop a := insE_at ha hpre hstop |>.2 fun hh => h2 hh.2
              have hlt2 : (o.take a).length ≤ 100000000 := by simp; omega
              simp only [ivT_take, iv_length, setP, setN]
              refine gb_by (dt (by omega)) (gb_by (by simp only [decide_eq_true_eq, true_and, and_true]; omega) (toCut ?_))
              refine Eq.mpr (epsRP_r N l o (o.take a) i a σ.nown e (σ.pushOwn (o.take a).length) _) ?_
              simp only [iv_length, setO, setW, ← iv_snoc]
              refine gb_by (by simp only [decide_eq_true_eq, true_and, and_true]; exact ⟨by simp [Sto.pushOwn], by omega, by omega⟩) (toCut ?_)
              refine Eq.mpr (epsRQ_r N l o (o.take a ++ [e]) i a σ.nown ((σ.pushOwn (o.take a).length).setOwn σ.nown ((o.take a).length + 1)) _) ?_
              have hdl : (o.drop a).take (o.length - a) = o.drop a := List.take_of_length_le (by simp)
              simp only [iv_length, Int.toNat_natCast, ivT_drop, ivT_take, hdl, setO, setW, setOwn_setOwn, List.length_append, List.length_cons, List.length_nil, Nat.zero_add]
              have hsum : (o.take a).length + (o.drop a).length = o.length := by simp; omega
              refine gb_by (dt (by omega)) (gb_by (by simp only [decide_eq_true_eq, true_and, and_true]; exact ⟨by simp [Sto.pushOwn, Sto.setOwn], by omega, by omega⟩) ?_)
              refine inBlock (toCut ?_)
              have hap : iv (o.take a ++ [e]) ++ iv (o.drop a) = iv (insE e o) := by rw [hr, ← iv_append]; simp
              rw [hap]
              refine Eq.mpr (epsRS_r N l (insE e o) i ((σ.pushOwn (o.take a).length).setOwn σ.nown ((o.take a).length + 1 + (o.drop a).length)) _) ?_
              exact hnext _ (hG.push _ _)
          · have hge : ¬ a < o.length := by simpa using h
            have hr : insE e o = o.take a ++ e :: o.drop a := insE_at ha hpre hstop |>.2 fun hh => hge hh.1
            have hlt2 : (o.take a).length ≤ 100000000 := by simp; omega
            simp only [ivT_take, iv_length, setP, setN]
            refine gb_by (dt (by omega)) (gb_by (by simp only [decide_eq_true_eq, true_and, and_true]; omega) (toCut ?_))
            refine Eq.mpr (epsRP_r N l o (o.take a) i a σ.nown e (σ.pushOwn (o.take a).length) _) ?_
            simp only [iv_length, setO, setW, ← iv_snoc]
            refine gb_by (by simp only [decide_eq_true_eq, true_and, and_true]; exact ⟨by simp [Sto.pushOwn], by omega, by omega⟩) (toCut ?_)
            refine Eq.mpr (epsRQ_r N l o (o.take a ++ [e]) i a σ.nown ((σ.pushOwn (o.take a).length).setOwn σ.nown ((o.take a).length + 1)) _) ?_
            have hdl : (o.drop a).take (o.length - a) = o.drop a := List.take_of_length_le (by simp)
            simp only [iv_length, Int.toNat_natCast, ivT_drop, ivT_take, hdl, setO, setW, setOwn_setOwn, List.length_append, List.length_cons, List.length_nil, Nat.zero_add]
            have hsum : (o.take a).length + (o.drop a).length = o.length := by simp; omega
            refine gb_by (dt (by omega)) (gb_by (by simp only [decide_eq_true_eq, true_and, and_true]; exact ⟨by simp [Sto.pushOwn, Sto.setOwn], by omega, by omega⟩) ?_)
            refine inBlock (toCut ?_)
            have hap : iv (o.take a ++ [e]) ++ iv (o.drop a) = iv (insE e o) := by rw [hr, ← iv_append]; simp
            rw [hap]
            refine Eq.mpr (epsRS_r N l (insE e o) i ((σ.pushOwn (o.take a).length).setOwn σ.nown ((o.take a).length + 1 + (o.drop a).length)) _) ?_
            exact hnext _ (hG.push _ _)
      · have hstop : ∀ h : a < o.length, ¬ o[a] < e := fun hh => by simp at h; omega
        clear hL2 h
        refine leaveTo (toCut ?_)
        refine Eq.mpr (epsRM_r N l o i a e σ _) ?_
        simp only [hold_eq, iv_length, Int.toNat_natCast, Nat.sub_zero, List.drop_zero]
        refine brV_by (fun h => ?_) (fun h => ?_)
        · have hlt : a < o.length := by simpa using h
          rw [elemAt_iv o a hlt]
          simp only [List.getD_cons_zero, AVal.intOf]
          refine gb_by (dt (by omega)) (gb_by rfl (brV_by (fun h2 => ?_) (fun h2 => ?_)))
          · have h2 : o[a] = e := by simpa using h2
            have hr : insE e o = o := insE_at ha hpre hstop |>.1 ⟨hlt, h2⟩
            refine leaveTo (toCut (Eq.mpr (epsRS_r N l o i σ _) ?_))
            rw [hr] at hnext
            exact hnext σ hG
          · have h2 : ¬ o[a] = e := by simpa using h2
            have hr : insE e o = o.take a ++ e :: o.drop a := insE_at ha hpre hstop |>.2 fun hh => h2 hh.2
            have hlt2 : (o.take a).length ≤ 100000000 := by simp; omega
            simp only [ivT_take, iv_length, setP, setN]
            refine gb_by (dt (by omega)) (gb_by (by simp only [decide_eq_true_eq, true_and, and_true]; omega) (toCut ?_))
            refine Eq.mpr (epsRP_r N l o (o.take a) i a σ.nown e (σ.pushOwn (o.take a).length) _) ?_
            simp only [iv_length, setO, setW, ← iv_snoc]
            refine gb_by (by simp only [decide_eq_true_eq, true_and, and_true]; exact ⟨by simp [Sto.pushOwn], by omega, by omega⟩) (toCut ?_)
            refine Eq.mpr (epsRQ_r N l o (o.take a ++ [e]) i a σ.nown ((σ.pushOwn (o.take a).length).setOwn σ.nown ((o.take a).length + 1)) _) ?_
            have hdl : (o.drop a).take (o.length - a) = o.drop a := List.take_of_length_le (by simp)
            simp only [iv_length, Int.toNat_natCast, ivT_drop, ivT_take, hdl, setO, setW, setOwn_setOwn, List.length_append, List.length_cons, List.length_nil, Nat.zero_add]
            have hsum : (o.take a).length + (o.drop a).length = o.length := by simp; omega
            refine gb_by (dt (by omega)) (gb_by (by simp only [decide_eq_true_eq, true_and, and_true]; exact ⟨by simp [Sto.pushOwn, Sto.setOwn], by omega, by omega⟩) ?_)
            refine inBlock (toCut ?_)
            have hap : iv (o.take a ++ [e]) ++ iv (o.drop a) = iv (insE e o) := by rw [hr, ← iv_append]; simp
            rw [hap]
            refine Eq.mpr (epsRS_r N l (insE e o) i ((σ.pushOwn (o.take a).length).setOwn σ.nown ((o.take a).length + 1 + (o.drop a).length)) _) ?_
            exact hnext _ (hG.push _ _)
        · have hge : ¬ a < o.length := by simpa using h
          have hr : insE e o = o.take a ++ e :: o.drop a := insE_at ha hpre hstop |>.2 fun hh => hge hh.1
          have hlt2 : (o.take a).length ≤ 100000000 := by simp; omega
          simp only [ivT_take, iv_length, setP, setN]
          refine gb_by (dt (by omega)) (gb_by (by simp only [decide_eq_true_eq, true_and, and_true]; omega) (toCut ?_))
          refine Eq.mpr (epsRP_r N l o (o.take a) i a σ.nown e (σ.pushOwn (o.take a).length) _) ?_
          simp only [iv_length, setO, setW, ← iv_snoc]
          refine gb_by (by simp only [decide_eq_true_eq, true_and, and_true]; exact ⟨by simp [Sto.pushOwn], by omega, by omega⟩) (toCut ?_)
          refine Eq.mpr (epsRQ_r N l o (o.take a ++ [e]) i a σ.nown ((σ.pushOwn (o.take a).length).setOwn σ.nown ((o.take a).length + 1)) _) ?_
          have hdl : (o.drop a).take (o.length - a) = o.drop a := List.take_of_length_le (by simp)
          simp only [iv_length, Int.toNat_natCast, ivT_drop, ivT_take, hdl, setO, setW, setOwn_setOwn, List.length_append, List.length_cons, List.length_nil, Nat.zero_add]
          have hsum : (o.take a).length + (o.drop a).length = o.length := by simp; omega
          refine gb_by (dt (by omega)) (gb_by (by simp only [decide_eq_true_eq, true_and, and_true]; exact ⟨by simp [Sto.pushOwn, Sto.setOwn], by omega, by omega⟩) ?_)
          refine inBlock (toCut ?_)
          have hap : iv (o.take a ++ [e]) ++ iv (o.drop a) = iv (insE e o) := by rw [hr, ← iv_append]; simp
          rw [hap]
          refine Eq.mpr (epsRS_r N l (insE e o) i ((σ.pushOwn (o.take a).length).setOwn σ.nown ((o.take a).length + 1 + (o.drop a).length)) _) ?_
          exact hnext _ (hG.push _ _)
    · have hge : ¬ i < l.length := by simpa using h
      rw [List.take_of_length_le (by omega)] at ho
      subst ho
      exact ⟨rfl, σ, rfl, hG⟩
  rw [e0] at key
  refine key.shutAt fun r τ ⟨h1, σ, h2, h3⟩ => ?_
  subst h1 h2
  refine ⟨by simp only [AVal.sealT, sealL_iv, Tag.sealT], by simp only [AVal.noOut, iv_noOut], fun i hi => ?_, fun p hp => h3.2 p hp⟩
  have : i = 0 := by
    have : (refS N l).nobj = 1 := rfl
    omega
  subst this
  simp [Sto.set, refS]
end Go.Proofs.Ytakidnohmfebmaa
