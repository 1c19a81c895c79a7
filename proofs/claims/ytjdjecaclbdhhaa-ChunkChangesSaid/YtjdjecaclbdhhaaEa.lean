/-
  Seat 10 (chunk): the law ChunkChanges over abstract values.
-/
import Derived.Test.YtjdjecaclbdhhaaCv
import Derived.Test.YtjdjecaclbdhhaaCz
set_option linter.unusedVariables false
set_option linter.unusedSimpArgs false
set_option maxRecDepth 20000
set_option maxHeartbeats 2000000
namespace Go.Proofs.Ytjdjecaclbdhhaa
open Go.AL

theorem changes_law (xs : List AVal) (h : FitsL [.slice (.agg [.int .i64, .slice (.int .i64) 1 8, .int .i64, .bool]) 4 48, .int .i64] xs) :
    ACall Try.prog 4 xs Sto.empty fun v _ => v = .bool true := by
  obtain ⟨a1, t1, rfl, f1, a2, t2, rfl, f2, rfl⟩ := h
  obtain ⟨l, rfl, hl⟩ := fits_ckv f1
  obtain ⟨x, rfl, _, _⟩ := f2
  refine changes_i l x _ (.of [awakeE, smallE, copiedE, insertE, removeE, insertRE, removeRE, sameE, rightE, rightRE, idsE, idsRE, intsE] rfl ⟨awake_ok, small_ok, copied_ok, insert_ok, remove_ok, insertR_ok, removeR_ok, same_ok, right_ok, rightR_ok, ids_ok, idsR_ok, ints_ok, trivial⟩) ?_
  have hn : (ckv l).length = l.length := ckv_length l
  simp only [hold_eq, map_ckOf, map_intOf_iv]
  refine brV_by' (fun _ => ?_) (fun h => by cases h)
  refine gb_by (and_tt (ckv_is _) (lenOk_mk (by omega))) (brV_by (fun _ => trivial) (fun hs => ?_))
  have hs : smallC l = true := by simpa using hs
  obtain ⟨s1, s2⟩ := smallC_iff.1 hs
  have hC := conds (l := l) (by omega) (fun c hc => by have := s2 c hc; omega)
  intro y hy
  refine gb_by hC ?_
  intro y1 h1
  subst hy
  refine gb_by hC ?_
  intro y2 h2
  refine gb_by hC ?_
  intro y3 h3
  refine gb_by hC ?_
  intro y4 h4
  obtain rfl : y3 = y1 := by rw [h1, h3]
  obtain rfl : y4 = y2 := by rw [h2, h4]
  have i1 := insK_le y x
  have i2 := remK_le y x
  rw [← h1] at i1
  rw [← h2] at i2
  have c1 := conds (l := y3.1) (by omega) (fun c hc => by have := i1.2 c hc; omega)
  have c2 := conds (l := y4.1) (by omega) (fun c hc => by have := i2.2 c hc; omega)
  have hC2 : ((ckv y).all ckIs && ((ckv y).all ckIs && (lenM (ckv y).length && (ckv y).all ckM))) = true := and_tt (ckv_is _) hC
  simp only [beq_self_eq_true, brV_tt]
  refine gb_by hC (gb_by hC2 (gb_by hC (gb_by hC ?_)))
  intro z hz
  refine gb_by hC ?_
  intro z2 hz2
  obtain rfl : z2 = z := by rw [hz, hz2]
  have hzl : z2.length ≤ 20 * y.length := by rw [hz]; exact idsC_len y 20 s2
  have hzv : (iv z2).length = z2.length := iv_length _
  simp only [beq_self_eq_true, brV_tt]
  refine gb_by hC (gb_by (and_tt (iv_isI64 _) (and_tt (iv_isI64 _) (lenOk_mk (by omega)))) ?_)
  exact gb_by (and_tt (ckv_is _) c1) (gb_by (and_tt (ckv_is _) c2) trivial)
end Go.Proofs.Ytjdjecaclbdhhaa
