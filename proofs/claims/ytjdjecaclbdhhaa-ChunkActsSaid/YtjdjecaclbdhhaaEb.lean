/-
  Seat 10 (chunk): what the laws of many ids share.
-/
import Derived.Test.YtjdjecaclbdhhaaCv
set_option linter.unusedVariables false
set_option linter.unusedSimpArgs false
set_option maxRecDepth 20000
set_option maxHeartbeats 2000000
namespace Go.Proofs.Ytjdjecaclbdhhaa
open Go.AL

/-- A number turned into the ids below n. -/
def mdN (n : Int) (x : Int) : Int := Int.tmod (IntKind.i64.wrap (Int.tmod x n + n)) n
theorem mdN_range {n x : Int} (hn : 0 < n) (hb : n ≤ 1000000) : 0 ≤ mdN n x ∧ mdN n x < n := by
  have a1 : Int.tmod x n < n := Int.tmod_lt_of_pos x hn
  have a2 : -n < Int.tmod x n := by
    have := Int.tmod_lt_of_pos (-x) hn
    rw [Int.neg_tmod] at this
    omega
  unfold mdN
  rw [wrap_i64 (by omega) (by omega)]
  exact ⟨Int.tmod_nonneg n (by omega), Int.tmod_lt_of_pos _ hn⟩
theorem mdN_shift {n i : Nat} {t : Int} (hn : 0 < n) (hb : n ≤ 1000000) (hi : i ≤ 1000000) : Int.tmod (IntKind.i64.wrap ((i : Int) + mdN (n : Int) t)) (n : Int) = ((i + (mdN (n : Int) t).toNat) % n : Nat) := by
  obtain ⟨h1, h2⟩ := mdN_range (n := (n : Int)) (x := t) (by omega) (by omega)
  obtain ⟨c, hc⟩ : ∃ c : Nat, mdN (n : Int) t = (c : Int) := ⟨(mdN (n : Int) t).toNat, by omega⟩
  rw [hc, wrap_i64 (by omega) (by omega), Int.tmod_eq_emod_of_nonneg (by omega), Int.toNat_natCast]
  rfl
theorem condsP {p : List Pt} (hG : GoodC p) (hp : (idsP p).length ≤ 1000) : ((ckv (mkC p)).all ckIs && (lenM (ckv (mkC p)).length && (ckv (mkC p)).all ckM)) = true :=
  conds (by rw [mkC_length]; have := hG.short; omega) fun c hc => by have := mk_mem hG c hc; omega
theorem condsA {l ch : List Ck} (h1 : ((ckv l).all ckIs && (lenM (ckv l).length && (ckv l).all ckM)) = true) (h2 : ((ckv ch).all ckIs && (lenM (ckv ch).length && (ckv ch).all ckM)) = true) :
    ((ckv l).all ckIs && ((ckv ch).all ckIs && (lenM (ckv l).length && (lenM (ckv ch).length && ((ckv l).all ckM && (ckv ch).all ckM))))) = true := by
  simp only [Bool.and_eq_true] at h1 h2 ⊢
  exact ⟨h1.1, h2.1, h1.2.1, h2.2.1, h1.2.2, h2.2.2⟩
theorem condsK (l : List Ck) (x : Int) : ((ckv (insK l x).1).all ckIs && (lenM (ckv (insK l x).1).length && (ckv (insK l x).1).all ckM)) = true := by
  obtain ⟨h1, h2⟩ := insK_le l x
  exact conds (by omega) fun c hc => by have := h2 c hc; omega
theorem condsR (l : List Ck) (x : Int) : ((ckv (remK l x).1).all ckIs && (lenM (ckv (remK l x).1).length && (ckv (remK l x).1).all ckM)) = true := by
  obtain ⟨h1, h2⟩ := remK_le l x
  exact conds (by omega) fun c hc => by have := h2 c hc; omega
theorem getD_get {es : List Int} {i : Nat} (h : i < es.length) : es.getD i 0 = es[i] := by rw [List.getD_eq_getElem?_getD, List.getElem?_eq_getElem h]; rfl
end Go.Proofs.Ytjdjecaclbdhhaa
