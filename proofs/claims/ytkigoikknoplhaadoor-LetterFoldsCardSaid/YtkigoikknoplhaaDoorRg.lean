/-
  Seat 01 (letter): the contract of the reference's Fold; the law of folded texts.
-/
import Derived.Test.YtkigoikknoplhaaDoorRf
import Derived.Test.YtkigoikknoplhaaDoorQl
namespace Go.Proofs.YtkigoikknoplhaaDoor
open Go.AL
set_option linter.unusedSimpArgs false
set_option linter.unusedVariables false
set_option maxHeartbeats 2000000
set_option maxRecDepth 20000
theorem foldR_ok : EntOk Tryd.prog foldRE := by
  intro xs σ; simp only [foldRE]; split
  · rename_i s
    intro hc
    refine PCall.ofBelowA fun γ w vs ha hr => ?_
    obtain ⟨u, rfl, hu⟩ := repL1 hr
    have hu := repStr hu
    subst hu
    exact (foldR_walk s w (lenT_of hc) fun x hx => (ha x hx).2).mono fun e w' ⟨he, hb⟩ => ⟨_, he, .str false _, hb⟩
  · trivial
theorem folds_law (xs : List AVal) (h : FitsL [.str, .int .i64] xs) : ACall Tryd.prog 5 xs Sto.empty fun r _ => r = .bool true := by
  obtain ⟨_, _, rfl, ⟨s, rfl, hs0⟩, _, _, rfl, h2, rfl⟩ := h
  obtain ⟨n, rfl, hn⟩ := fits_i64 h2
  refine foldsL_i s n _ (.of [awakeE, foldE, foldRE, countE, runesE, cutE, cutRE] rfl ⟨awake_ok, fold_ok, foldR_ok, count_ok, runes_ok, cut_ok, cutR_ok, trivial⟩) ?_
  simp only [hold_eq]
  refine brF rfl (brV_by (fun _ => by trivial) (fun h => ?_))
  have hs : s.length ≤ 2000 := by have := of_decide_eq_false h; omega
  have ls := lenT_mk (show s.length ≤ 1000000 by omega)
  intro y hy
  refine gb_by ls ?_
  intro z hz
  refine gb_by ls (brT (by rw [hy, hz]; simp) ?_)
  intro k hk
  refine gb_by ls ?_
  intro r hr
  refine gb_by ls (brT (by rw [hk, hr]; simp) ?_)
  intro p hp
  refine gb_by (and_tt ls (i64r_mk hn)) ?_
  intro q hq
  exact gb_by (and_tt ls (i64r_mk hn)) (ft (by rw [hp, hq]; simp))
end Go.Proofs.YtkigoikknoplhaaDoor
