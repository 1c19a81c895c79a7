/-
  Seat 07 (disk): Crash, Cut, Bytes, walked with the kit.
-/
import Derived.Test.YtekcekddahkajaaDK
import Derived.Lib.BufferMore
namespace Go.Proofs
open Go.RowKit Ytekcekddahkajaa
set_option linter.unusedSimpArgs false
set_option linter.unusedVariables false
set_option maxHeartbeats 4000000
set_option maxRecDepth 1000000
/-- How many bytes stay. -/
def stayN (k s n : Int) : Int := s + min (max k 0) (n - s)
theorem cutAt {w : World} {p n : Nat} {r s : Int} {l : List UInt8} {g : Option Nat} {a : Option Addr} {c : Nat} (hh : w.heap[p]? = some (.cells #[.int .i64 r, .int .i64 s, .slice a l.length c] 48 (0, 0)))
    (hr : w.ownsRow (p + 1) 5 1 (.slice a l.length c) l.length (bvs l)) (hg : (Value.slice a l.length c).ownBlock = g) (hn : n ≤ l.length) :
    DiskP (w.setCell ⟨p, 2, none⟩ (.slice a n c)) p r s (l.take n) g := by
  have hl : (l.take n).length = n := by rw [List.length_take]; omega
  refine ⟨.slice a n c, ?_, ?_, ?_⟩
  · rw [heap_setCell_same _ _ _ _ _ _ hh]; rfl
  · rw [hl]; exact ownsRow_set (ownsRow_take hr rfl hn) (by omega)
  · cases a <;> exact hg
theorem cut_walk {w : World} {p : Nat} {r s : Int} {l : List UInt8} {g : Option Nat} (h : DiskP w p r s l g) (n : Int) (h0 : 0 ≤ n) (h1 : n ≤ l.length) :
    Calls Try.prog 16 #[.pointer (some ⟨p, 0, none⟩), .int .i64 n] w fun e w' => e = .returned (.int .i64 0) ∧ DGo w p g w' r n (l.take n.toNat) := by
  obtain ⟨a, c, hh, hr, hg, hc1, hc2⟩ := h.open
  have c2 := cells_at hh 2
  have f2 := frz_at hh 2
  simp only [List.getElem?_toArray, List.getElem?_cons_zero, List.getElem?_cons_succ] at c2
  obtain ⟨m, rfl⟩ : ∃ m : Nat, n = m := ⟨n.toNat, by omega⟩
  have hm : m ≤ l.length := by omega
  have hl : (l.take m).length = m := by rw [List.length_take]; omega
  have hd := cutAt hh hr hg hm
  go_enter Try.func16, Try.ntmps16
  go_wp2_with (go_at_call 10; refine (flush_walk hd).mono ?_)
  rintro e w1 ⟨rfl, hgo⟩
  go_wp2
  go_ret
  rw [hl] at hgo
  exact ⟨rfl, DGo.trans (chg_set _) (fun k hk => .inl hk) hgo⟩
theorem cut_err {w : World} {p : Nat} {r s : Int} {l : List UInt8} {g : Option Nat} (h : DiskP w p r s l g) (n : Int) (h0 : n < 0 ∨ (l.length : Int) < n) :
    Calls Try.prog 16 #[.pointer (some ⟨p, 0, none⟩), .int .i64 n] w fun e w' => e = .returned (.int .i64 2) ∧ w' = w := by
  obtain ⟨a, c, hh, hr, hg, hc1, hc2⟩ := h.open
  have c2 := cells_at hh 2
  simp only [List.getElem?_toArray, List.getElem?_cons_zero, List.getElem?_cons_succ] at c2
  go_enter Try.func16, Try.ntmps16
  go_wp2
  all_goals go_ret
  all_goals exact ⟨rfl, rfl⟩
theorem crash_walk {w : World} {p : Nat} {r s : Int} {l : List UInt8} {g : Option Nat} (h : DiskP w p r s l g) (k : Int) (h0 : 0 ≤ s) (h1 : s ≤ l.length) (h2 : l.length ≤ 1073741824) :
    Calls Try.prog 11 #[.pointer (some ⟨p, 0, none⟩), .int .i64 k] w fun e w' => e = .returned (.int .i64 (stayN k s l.length)) ∧ DGo w p g w' r (stayN k s l.length) (l.take (stayN k s l.length).toNat) := by
  obtain ⟨a, c, hh, hr, hg, hc1, hc2⟩ := h.open
  have c1 := cells_at hh 1
  have c2 := cells_at hh 2
  have f2 := frz_at hh 2
  simp only [List.getElem?_toArray, List.getElem?_cons_zero, List.getElem?_cons_succ] at c1 c2
  go_enter Try.func11, Try.ntmps11
  go_wp2
  go_region
  have hk : 0 ≤ stayN k s l.length ∧ stayN k s l.length ≤ l.length := by unfold stayN; omega
  have e1 : (s + if (l.length : Int) - s < if k < 0 then 0 else k then (l.length : Int) - s else if k < 0 then 0 else k) = stayN k s l.length := by
    unfold stayN; split <;> split <;> omega
  simp only [e1]
  obtain ⟨m, hm⟩ : ∃ m : Nat, stayN k s l.length = m := ⟨(stayN k s l.length).toNat, by omega⟩
  rw [hm] at hk ⊢
  have hml : m ≤ l.length := by omega
  have hl : (l.take m).length = m := by rw [List.length_take]; omega
  have hd := cutAt hh hr hg hml
  have hd2 : DiskP (w.setCell ⟨p, 2, none⟩ (.slice a m c)).drew p r s (l.take m) g := hd
  simp only [Int.toNat_natCast]
  generalize (if (l.length : Int) - s < if k < 0 then 0 else k then (l.length : Int) - s else if k < 0 then 0 else k) = z2
  generalize (if k < 0 then (0 : Int) else k) = z1
  generalize hW : (w.setCell ⟨p, 2, none⟩ (.slice a m c)).drew = W at hd2 ⊢
  have hch : Chg p g w W := by rw [← hW]; exact ⟨rfl, rfl, rfl, by simp, fun k _ hp _ => heap_setCell_other _ _ _ _ hp⟩
  go_wp2_with (go_at_call 10; refine (flush_walk hd2).mono ?_)
  rintro e w1 ⟨rfl, hgo⟩
  go_wp2
  go_ret
  rw [hl] at hgo
  rw [hm, Int.toNat_natCast]
  exact ⟨rfl, DGo.trans hch (fun k hk => .inl hk) hgo⟩
theorem clone_walk {w : World} {v : Value} {l : List UInt8} {N : Nat → Prop} (h : SlB N w v l) (hl : l.length ≤ 1073741824) :
    Calls Try.prog 20 #[v] w fun e w' => ∃ u, e = .returned u ∧ w'.ownsRow w.heap.size 5 1 u l.length (bvs l) ∧ Below w.heap.size w w' := by
  obtain ⟨i0, hi, hz0, hz1, hz2⟩ := info_parts byteInfo
  rcases h with ⟨rfl, a, rfl⟩ | ⟨b, off, cap, rfl, h1, h2, h3, h4⟩
  · cases a with
    | none =>
      have heq := Go.Lib.run_eql_slice_nil_nil (P := Try.prog) w 0 0 Try.underlying28
      go_enter Try.func20, Try.ntmps20
      go_wp2
      go_ret
      exact ⟨_, rfl, World.ownsRow_nil _ _ _ _, Below.refl _ _⟩
    | some ad =>
      have heq := Go.Lib.run_eql_slice_some_nil (P := Try.prog) w ad 0 0 Try.underlying28
      go_enter Try.func20, Try.ntmps20
      have hown0 := World.ownsRow_made (base := w.heap.size) (e := 5) (size := 1) w #[] 0 (Nat.le_refl _) (by unfold maxLen; omega) rfl
      go_wp2_with (first
        | (at_builtin; refine wpList_append_own_at _ rfl _ _ 28 rfl w.heap.size 5 i0 (.int .u8 0) 1 1 Try.underlying28 hi hz0 hz1 hz2 rfl (by decide) _ _ _ rfl hown0 ad 0 0 [] rfl rfl ?e1 ?e2 ?e3 ?e4 ?e5 ?_)
        | go_in)
      case e1 => intro j u hj; simp at hj
      case e2 => intro u hu; cases hu
      case e3 => unfold maxLen; omega
      case e4 => omega
      case e5 => simp
      intro v' w2 hown' hgrow hnil hat
      go_wp2
      go_ret
      exact ⟨_, rfl, by simpa [bvs] using hown', ((Below.refl _ w).alloc (Nat.le_refl _) _).grown hgrow (by simp) (fun j hj => by cases hj; exact Nat.le_refl _)⟩
  · have heq := Go.Lib.run_eql_slice_some_nil (P := Try.prog) w ⟨b, off, none⟩ l.length cap Try.underlying28
    go_enter Try.func20, Try.ntmps20
    have hown0 := World.ownsRow_made (base := w.heap.size) (e := 5) (size := 1) w #[] 0 (Nat.le_refl _) (by unfold maxLen; omega) rfl
    go_wp2_with (first
      | (at_builtin; refine wpList_append_own_at _ rfl _ _ 28 rfl w.heap.size 5 i0 (.int .u8 0) 1 1 Try.underlying28 hi hz0 hz1 hz2 rfl (by decide) _ _ _ rfl hown0 ⟨b, off, none⟩ l.length cap (bvs l) rfl ?c0 ?c1 (bvs_one l) ?c3 ?c4 ?c5 ?_)
      | go_in)
    case c0 => rw [bvs_length, Nat.mul_one]
    case c1 =>
      intro j u hj
      have := h4 j u hj
      have hplain : (⟨b, off, none⟩ : Addr).add j = ⟨b, off + j, none⟩ := by unfold Addr.add; split <;> simp_all
      rw [hplain, World.cell?_of_block (a := ⟨b, off + j, none⟩) (heap_alloc_old _ _ (World.block_lt_of_cell? _ _ this))]
      exact this
    case c3 => unfold maxLen; omega
    case c4 => omega
    case c5 => simp
    intro v' w2 hown' hgrow hnil hat
    go_wp2
    go_ret
    exact ⟨_, rfl, by simpa using hown', ((Below.refl _ w).alloc (Nat.le_refl _) _).grown hgrow (by simp) (fun j hj => by cases hj; exact Nat.le_refl _)⟩
theorem DiskP.slB {w : World} {p : Nat} {r s : Int} {l : List UInt8} {g : Option Nat} (h : DiskP w p r s l g) : ∃ v, w.cell? ⟨p, 2, none⟩ = some v ∧ SlB (fun _ => True) w v l := by
  obtain ⟨a, c, hh, hr, hg, h1, h2⟩ := h.open
  have c2 := cells_at hh 2
  simp only [List.getElem?_toArray, List.getElem?_cons_zero, List.getElem?_cons_succ] at c2
  refine ⟨_, c2, ?_⟩
  rcases hr.2 with ⟨h3, h4⟩ | ⟨q, cap, cur, h3, _⟩
  · rw [h3, List.eq_nil_of_length_eq_zero h4]
    exact .inl ⟨rfl, none, rfl⟩
  · have := hr.cells (g := q) (by rw [h3]; rfl)
    simp only [Value.slice.injEq, true_and] at h3
    obtain ⟨rfl, rfl⟩ := h3
    refine .inr ⟨q, 0, c, rfl, h1, h2, fun _ => trivial, fun j x hj => ?_⟩
    have h5 := this j x hj
    have hplain : (⟨q, 0, none⟩ : Addr).add j = ⟨q, 0 + j, none⟩ := by unfold Addr.add; split <;> simp_all
    rw [hplain] at h5
    exact h5
theorem bytes_walk {w : World} {p : Nat} {r s : Int} {l : List UInt8} {g : Option Nat} (h : DiskP w p r s l g) (hl : l.length ≤ 1073741824) :
    Calls Try.prog 12 #[.pointer (some ⟨p, 0, none⟩)] w fun e w' => ∃ u, e = .returned u ∧ w'.ownsRow w.heap.size 5 1 u l.length (bvs l) ∧ Below w.heap.size w w' := by
  obtain ⟨v, hv, hsl⟩ := h.slB
  go_enter Try.func12, Try.ntmps12
  go_wp2_with (go_at_call 20; refine (clone_walk hsl hl).mono ?_)
  rintro e w1 ⟨u, rfl, hu, hb⟩
  go_wp2
  go_ret
  exact ⟨_, rfl, hu, hb⟩
end Go.Proofs
