/-
  Seat 10 (chunk): contracts: copies, a number laid into a row.
-/
import Derived.Test.YtjdjecaclbdhhaaCg
import Derived.Test.YtjdjecaclbdhhaaCs
namespace Go.Proofs.Ytjdjecaclbdhhaa
open Go.AL
set_option linter.unusedSimpArgs false
set_option linter.unusedVariables false
set_option maxHeartbeats 4000000
set_option maxRecDepth 20000

theorem dtt {b : Bool} (h : b = true) : decide (b = true ∧ True) = true := by subst h; rfl
theorem ovOk_of {g : FuncId} {fn : Func} {T e : TypeId} (h1 : Try.prog.funcs[g]? = some fn) (h2 : (fn.name == "runtime.NumGoroutine") = false) (h3 : fn.body.isNone = true) (h4 : Extern.findNext fn = none)
    (h5 : Extern.find fn = some (Extern.SlicesOverlaps.overlaps fn.params fn.resultTypes)) (h6 : fn.params[0]? = some T) (h7 : Try.prog.underlying T = some (.slice e)) (h8 : (Try.prog.info? e).isSome = true) : OvOk Try.prog g := by
  obtain ⟨inf, hi⟩ := Option.isSome_iff_exists.1 h8
  exact ⟨fn, T, e, inf, h1, h2, h3, h4, h5, h6, h7, hi⟩
theorem ovOkI (g : FuncId) (h : isOvI g = true) : OvOk Try.prog g := by
  have e := Nat.eq_of_beq_eq_true h
  subst e
  exact ovOk_of (fn := Try.f47) (T := 22) (e := 3) (by kernel_rfl) (by kernel_rfl) (by kernel_rfl) (by kernel_rfl) (by kernel_rfl) (by kernel_rfl) (by kernel_rfl) (by kernel_rfl)

theorem cloneI_c (σ : Sto) (l : List Int) (hl : l.length ≤ 1000000) : ACall Try.prog 33 [.slice (iv l) 1 .ro] σ fun r τ => r = .mrow σ.nobj (iv l).length ∧ τ = σ.pushRow (iv l) 1 := by
  have hn : (iv l).length = l.length := iv_length l
  refine ACall.closeRow (by omega) (fun e he => by obtain ⟨x, _, rfl⟩ := List.mem_map.1 he; rfl) ?_
  refine cloneI_i σ l _ (.of_none rfl) ?_
  simp only [hold_eq, true_and]
  intro b hb _
  refine brV_by (fun h => ?_) (fun h => ?_)
  · have hb1 : b = true := by simpa using h
    have : iv l = [] := List.isEmpty_iff.1 (hb hb1)
    exact .inl ⟨this, 0, .inl rfl⟩
  · refine brV_by (fun h => ?_) (fun h => ?_)
    · have : iv l = [] := List.eq_nil_of_length_eq_zero (by simpa using h)
      exact .inl ⟨this, 1, .inr rfl⟩
    · refine gb_by (dt (by omega)) fun k hk => gb_by (dt ⟨?_, by omega⟩) (.inr ⟨k, List.replicate (k * 1) .undef, ?_, rfl, by simp, by omega⟩)
      · simp only [AObj.noLoc]
        exact noLocL_append (by rw [flat_iv]; exact iv_noLoc l) (noLocL_undefs _)
      · simp only [Nat.zero_add]

theorem cloneI_ok : EntOk Try.prog cloneIE := by
  intro xs σ; simp only [cloneIE]; split
  · rename_i es s t
    intro hc
    simp only [Bool.and_eq_true, hold_eq, decide_eq_true_eq] at hc
    obtain ⟨h1, h2, h3⟩ := hc
    have e := iv_of h2
    have := cloneI_c σ (es.map AVal.intOf) (by simpa using h3)
    rw [← e] at this
    exact ACall.args this (.cons (by have := wk_iv t h1 h2; rwa [← e] at this) (.refl _))
  · trivial

theorem insI_c (l : List Int) (i : Nat) (x : Int) (hi : i ≤ l.length) (hl : l.length ≤ 1000000) (j c : Nat) (hc : (iv l).length ≤ c) (hj : (iv l).length * 1 + j = c * 1) (hcm : c ≤ 9223372036854775807) :
    ACall Try.prog 31 [.arr (.out 0) 0 (iv l).length c, .int .i64 (i : Int), .slice [(AVal.int .i64) x] 1 .ro] (Sto.one (.cells (flat (iv l) ++ List.replicate j .undef))) fun r τ =>
      Wk r (.slice (insC (iv l) i ((AVal.int .i64) x)) 1 .ro) ∨ ∃ o cap tl, r = .arr (.out o) 0 (insC (iv l) i ((AVal.int .i64) x)).length cap ∧ τ.obj o = some (.cells (flat (insC (iv l) i ((AVal.int .i64) x)) ++ tl)) ∧ cap ≤ 9223372036854775807 := by
  have hn : (iv l).length = l.length := iv_length l
  have hfl : flat (insC (iv l) i ((AVal.int .i64) x)) = insC (iv l) i ((AVal.int .i64) x) := by
    have : insC (iv l) i ((AVal.int .i64) x) = iv (insL l i x) := insC_map (AVal.int .i64) l i x
    rw [this, flat_iv]
  have hil := insC_length ((AVal.int .i64) x) (show i ≤ (iv l).length by omega)
  rw [hfl, hil, flat_iv]
  have hE : noLocL (iv l) = true := iv_noLoc l
  generalize hEE : iv l = E at *
  have hlc : (E ++ List.replicate j AVal.undef).length = E.length + j := by simp
  refine insI_i _ E.length c i x _ (.ofX [] rfl trivial ovOkI) ?_
  have w1 : IntKind.i64.wrap ((E.length : Int) + ((1 : Nat) : Int)) = ((E.length + 1 : Nat) : Int) := by rw [wrap_i64 (by omega) (by omega)]; rfl
  have w2 : IntKind.i64.wrap (((E.length + 1 : Nat) : Int) - (i : Int)) = ((E.length + 1 - i : Nat) : Int) := by rw [wrap_i64 (by omega) (by omega)]; omega
  have w3 : IntKind.i64.wrap ((i : Int) + ((1 : Nat) : Int)) = ((i + 1 : Nat) : Int) := by rw [wrap_i64 (by omega) (by omega)]; rfl
  have m1 : min 1 (i + (E.length + 1 - i) - i) = 1 := by omega
  have m2 : min (E.length - i) (i + (E.length + 1 - i) - (i + 1)) = E.length - i := by omega
  have m3 : min (E.length - i) (E.length + 1 - (i + 1)) = E.length - i := by omega
  have m4 : min 1 (E.length + 1 - i) = 1 := by omega
  have m5 : min (E.length + 1 - i) (E.length + 1 - (i + 1)) = E.length - i := by omega
  have m6 : min (E.length - i) (E.length + 1 - i) = E.length - i := by omega
  simp only [hold_eq, w1, w2, w3, Int.toNat_natCast, Nat.sub_zero, Nat.mul_one, Nat.zero_add, m1, m2, m3, m4, m5, m6, List.take_take, one_set, flat_rep (show ((AVal.int .i64 0) : AVal).cells = [(AVal.int .i64 0)] from rfl)]
  refine gb_by (dt (by omega)) ?_
  refine brV_by (fun h => by cases h) fun _ => ?_
  refine brV_by (fun h => ?_) (fun h => ?_)
  · have he : i = E.length := by simp at h; omega
    subst he
    refine gb_by (dt (by omega)) (brV_by (fun h => ?_) (fun h => ?_))
    · have hroom : E.length + 1 ≤ c := by simpa using h
      refine gb_by (dtt (dt ⟨trivial, hroom, by omega, fun _ => rfl⟩)) ?_
      obtain ⟨tl, htl⟩ := ins_end (E := E) (J := List.replicate j AVal.undef) ((AVal.int .i64) x) (by simp; omega)
      exact .inr ⟨0, c, tl, rfl, by rw [htl]; rfl, hcm⟩
    · refine gb_by (dt (by omega)) fun k hk => gb_by (dt ⟨?_, by omega⟩) ?_
      · exact noLocL_append (noLocL_append (noLocL_take _ (noLocL_append hE (noLocL_undefs _))) rfl) (noLocL_undefs _)
      · obtain ⟨tl, htl⟩ := ins_endG (E := E) (J := List.replicate j AVal.undef) (U := List.replicate k AVal.undef) ((AVal.int .i64) x)
        exact .inr ⟨1, E.length + 1 + k, tl, rfl, by rw [htl]; rfl, by omega⟩
  · have hne : i < E.length := by simp at h; omega
    have hNL : noLocL (E ++ List.replicate j AVal.undef) = true := noLocL_append hE (noLocL_undefs _)
    refine brV_by (fun h => ?_) (fun h => ?_)
    · have hroom : c < E.length + 1 := by simp at h; omega
      refine gb_by (dt (by omega)) (gb_by (by simp; omega) (gb_by (dt (by omega)) fun k hk => ?_))
      have hU : noLocL (List.take i (E ++ List.replicate j AVal.undef) ++ List.replicate (E.length + 1 - i) (AVal.int .i64 0) ++ List.replicate k AVal.undef) = true :=
        noLocL_append (noLocL_append (noLocL_take _ hNL) (noLocL_rep rfl _)) (noLocL_undefs _)
      have hl0 : (List.take i (E ++ List.replicate j AVal.undef) ++ List.replicate (E.length + 1 - i) (AVal.int .i64 0) ++ List.replicate k AVal.undef).length = E.length + 1 + k := by simp; omega
      have hl1 : i + [(AVal.int .i64) x].length ≤ (List.take i (E ++ List.replicate j AVal.undef) ++ List.replicate (E.length + 1 - i) (AVal.int .i64 0) ++ List.replicate k AVal.undef).length := by rw [hl0]; simp; omega
      refine gb_by (dt ⟨hU, by omega⟩) (gb_by (dt (by omega)) (gb_by (dtt (dt ⟨trivial, ?_, fun _ => noLocL_take _ rfl⟩)) (gb_by (dt (by omega)) (gb_by (dt (by omega)) (gb_by (dtt (dt ⟨?_, ?_, fun _ => noLocL_take _ (noLocL_drop _ hNL)⟩)) ?_)))))
      · rw [hl0]; omega
      · exact dt (by omega)
      · rw [setRange_length (by first | exact hl1 | simpa using hl1), hl0]; omega
      · obtain ⟨tl, htl⟩ := ins_mid (E := E) (J := List.replicate j AVal.undef) (U := List.replicate k AVal.undef) ((AVal.int .i64) x) (AVal.int .i64 0) (show i ≤ E.length by omega)
        refine .inr ⟨1, i + (E.length + 1 - i) + k, tl, ?_, ?_, by omega⟩
        · congr 1; omega
        · simp only [List.take_take, Nat.min_self, List.take_succ_cons, List.take_zero] 
          rw [← htl]
          rfl
    · have hroom : E.length + 1 ≤ c := by simp at h; omega
      have hl1 : (((E ++ List.replicate j AVal.undef).drop i).take (E.length - i)).length = E.length - i := by simp; omega
      have h1 : i + 1 + (((E ++ List.replicate j AVal.undef).drop i).take (E.length - i)).length ≤ (E ++ List.replicate j AVal.undef).length := by rw [hl1, hlc]; omega
      refine gb_by (dt (by omega)) (gb_by (dt (by omega)) (gb_by (dt ⟨by omega, by rw [hlc]; omega⟩) (gb_by (dt (by omega)) (gb_by (dt (by omega)) (gb_by (dtt (dt ⟨dt (by rw [hlc]; omega), by rw [hlc]; omega, fun _ => ?_⟩)) (gb_by (dt (by omega)) (gb_by (dtt (dt ⟨trivial, ?_, fun _ => noLocL_take _ rfl⟩)) ?_)))))))
      · exact noLocL_take _ (noLocL_drop _ hNL)
      · rw [setRange_length h1, hlc]; omega
      · obtain ⟨tl, htl⟩ := ins_shift (E := E) (J := List.replicate j AVal.undef) ((AVal.int .i64) x) (show i ≤ E.length by omega) (by simp; omega)
        exact .inr ⟨0, c, tl, rfl, by rw [← htl]; rfl, hcm⟩

theorem insC_ofI {es : List AVal} (h : es.all isI64 = true) (i : Nat) (x : Int) : insC es i ((AVal.int .i64) x) = iv (insL (es.map AVal.intOf) i x) := by
  conv => lhs; rw [iv_of h]
  exact insC_map (AVal.int .i64) _ i x
theorem insI_ok : EntOk Try.prog insIE := by
  intro xs σ; simp only [insIE]; split
  · rename_i k n i x
    split
    · rename_i es s g hk
      intro hc
      simp only [Bool.and_eq_true, hold_eq, decide_eq_true_eq] at hc
      obtain ⟨h1, h2, h3, rfl, h5, h6, h7⟩ := hc
      have h1 := Nat.eq_of_beq_eq_true h1
      have h2 := Nat.eq_of_beq_eq_true h2
      subst h1; subst h2
      obtain ⟨j, rfl⟩ : ∃ j : Nat, i = (j : Int) := ⟨i.toNat, by omega⟩
      simp only [Int.toNat_natCast]
      have e := iv_of h3
      have hw : WkL [.slice [(AVal.int .i64) x] 1 .full] [.slice [(AVal.int .i64) x] 1 .ro] := .cons (Wk.ro _ _ _) (.refl _)
      have hi := insC_ofI h3 j x
      refine ACall.openRow (es' := insC es j ((AVal.int .i64) x)) hk (by rw [e]; exact iv_noOut 0 _) (by rw [e]; exact iv_noTok 0 _) rfl rfl (by rw [hi]; exact iv_noOut 0 _) (by rw [hi]; exact iv_noTok 0 _) (fun y hy => ?_) (fun he => ?_) (fun jj c c1 c2 c3 => ?_)
      · rw [hi] at hy
        obtain ⟨z, _, rfl⟩ := List.mem_map.1 hy
        rfl
      · subst he
        have hj : j = 0 := by simp at h6; omega
        subst hj
        refine ACall.args (insIH_i 0 x _ (.ofX [] rfl trivial ovOkI) ?_) (.cons (.refl _) (.cons (.refl _) hw))
        simp only [hold_eq]
        refine gb_by (dt (by omega)) (brV_by (fun h => by cases h) fun _ => brV_by (fun _ => ?_) (fun h => by simp at h))
        exact Wk.ro _ _ _
      · have := insI_c (es.map AVal.intOf) j x (by simp; omega) (by simpa using h7) jj c (by rw [← e]; exact c1) (by rw [← e]; exact c2) c3
        rw [← e] at this
        exact ACall.args this (.cons (.refl _) (.cons (.refl _) hw))
    · trivial
  · trivial

theorem cloneIS_c (l : List Int) (hl : l.length ≤ 1000000) : ACall Try.prog 33 [.slice (iv l) 1 .ro] Sto.empty fun r _ => Wk r (.slice (iv l) 1 .ro) := by
  have hn : (iv l).length = l.length := iv_length l
  refine cloneIS_i l _ (.of_none rfl) ?_
  simp only [hold_eq, true_and]
  intro b hb _
  refine brV_by (fun h => ?_) (fun h => ?_)
  · have hb1 : b = true := by simpa using h
    have : iv l = [] := List.isEmpty_iff.1 (hb hb1)
    rw [this]
    exact Wk.nil _ _ _
  · exact gb_by (by simp only [true_or, true_and, and_true, decide_eq_true_eq, Nat.zero_add]; omega) (by rw [List.nil_append]; exact Wk.ro _ _ _)
theorem cloneIS_ok : EntOk Try.prog cloneISE := by
  intro xs σ; simp only [cloneISE]; split
  · rename_i es s t
    intro hc
    simp only [Bool.and_eq_true, hold_eq, decide_eq_true_eq] at hc
    obtain ⟨h1, h2, h3⟩ := hc
    have e := iv_of h2
    have ho : noOutL 0 es = true := by rw [e]; exact iv_noOut 0 _
    have ht : noTokL 0 es = true := by rw [e]; exact iv_noTok 0 _
    have := cloneIS_c (es.map AVal.intOf) (by simpa using h3)
    rw [← e] at this
    exact pcall_of (.cons (by have := wk_iv t h1 h2; rwa [← e] at this) (.refl _)) this (by simp only [noOutL, AVal.noOut, ho, Bool.and_true]) (by simp only [noTokL, AVal.noTok, ht, Tag.below, Bool.and_true]) (by simp only [AVal.noOut, ho]) (by simp only [AVal.noTok, ht, Tag.below, Bool.and_true])
  · trivial

end Go.Proofs.Ytjdjecaclbdhhaa
