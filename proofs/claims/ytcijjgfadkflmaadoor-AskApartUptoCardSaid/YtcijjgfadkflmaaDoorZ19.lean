/-
  The texts Wa of this seat, one behind the other.
-/
import Derived.Test.YtcijjgfadkflmaaDoorZ18
import Derived.Test.YtcijjgfadkflmaaDoorTie
import Derived.Lib.LaidU8
import Derived.Lib.LaidU8T
import Derived.Lib.LaidTab
import Derived.Lib.LaidIn
import Derived.LaidHandle
import Derived.LaidLaws

section
namespace Go.Proofs.YtcijjgfadkflmaaDoor
open Go.AL Go.ChangeShapes Go.WideShapes Go.RowKit
set_option maxRecDepth 100000

def laidL : List (String × DataW Unit) := [("math/bits.deBruijn32tab", Rows.laid_math_bits_deBruijn32tab), ("math/bits.deBruijn64tab", Rows.laid_math_bits_deBruijn64tab), ("internal/strconv.uint64pow10", Rows.laid_internal_strconv_uint64pow10), ("unicode/utf8.acceptRanges", Rows.laid_unicode_utf8_acceptRanges), ("strconv.ErrRange", Rows.laid_strconv_ErrRange), ("strconv.ErrSyntax", Rows.laid_strconv_ErrSyntax), ("unicode/utf8.first", Rows.laid_unicode_utf8_first)]
theorem first_eq : Rows.laid_unicode_utf8_first = Lib.firstData := by kernel_rfl
theorem accept_eq : (Rows.laid_unicode_utf8_acceptRanges : DataW Unit) = Lib.acceptData := by kernel_rfl
theorem u8t : U8Types Tryd.prog Tryd.lays197_ren := ⟨by kernel_rfl, by kernel_rfl, by kernel_rfl, by kernel_rfl⟩
theorem pow_eq : (Rows.laid_internal_strconv_uint64pow10 : DataW Unit) = Lib.tabData .u64 Lib.pow10Tab := by kernel_rfl
theorem err_cell {W : World} {n : String} {g : Nat} {text : List UInt8} (hL : laidMet Tryd.prog laidL W) (hm : (n, (DataW.iface "*errors.errorString" (.ptr (.agg [.lit (.string text)])) : DataW Unit)) ∈ laidL) (hg : Tryd.prog.globalNamed n = some g)
    (ht : (Tryd.prog.globals[g]?).map (·.type) = some 70) : ∃ v, W.cell? ⟨g, 0, none⟩ = some v ∧ isErrV v := by
  obtain ⟨g', t, cs, fuel, p, h1, h2, h3, h4⟩ := Lib.laidMet.reads hL hm
  obtain rfl := Option.some.inj (hg.symm.trans h1)
  obtain rfl := Option.some.inj (ht.symm.trans h2)
  obtain ⟨_, u, v, h5, _, _⟩ := iface_of_trod Tryd.underlying70 h4
  refine ⟨.iface u v, ?_, u, v, rfl⟩
  rw [World.var?_cell hg h3 0]
  have : cs = #[.iface u v] := by rw [← Array.toArray_toList (xs := cs), h5]
  rw [this]; rfl
theorem laid_tabs {W : World} (h : laidMetH Tryd.prog laidL W) : Known W := by
  have hL : laidMet Tryd.prog laidL W := h
  have hg : Tryd.prog.globalNamed "internal/strconv.uint64pow10" = some 3 := by kernel_rfl
  have hT : Lib.TabIs Tryd.prog W "internal/strconv.uint64pow10" .u64 Lib.pow10Tab := by
    obtain ⟨g', t, cs, fuel, p, h1, h2, h3, h4⟩ := Lib.laidMet.reads hL (show ("internal/strconv.uint64pow10", _) ∈ laidL from .tail _ (.tail _ (.head _)))
    obtain rfl := Option.some.inj (hg.symm.trans h1)
    obtain rfl := Option.some.inj ((show (Tryd.prog.globals[3]?).map (·.type) = some 121 by kernel_rfl).symm.trans h2)
    rw [pow_eq] at h4
    have := Lib.cells_of_tab Tryd.underlying121 Tryd.underlying107 (by kernel_rfl) (by kernel_rfl) h4
    unfold Lib.TabIs
    rw [h3, ← this]
  have hU : Lib.Utf8Tabs 1 2 W :=
    utf8Tabs_of_readsT u8t ⟨by kernel_rfl, by kernel_rfl, by kernel_rfl, by kernel_rfl, by kernel_rfl, by kernel_rfl, by kernel_rfl⟩ (first_eq ▸ Lib.laidMet.reads hL (.tail _ (.tail _ (.tail _ (.tail _ (.tail _ (.tail _ (.head _)))))))) (accept_eq ▸ Lib.laidMet.reads hL (.tail _ (.tail _ (.tail _ (.head _)))))
  have hlen := Lib.pow10Tab_length
  refine ⟨fun x hx => ?_, fun x hx => ?_, fun x hx => ?_⟩
  · unfold tabs at hx
    rcases List.mem_append.1 hx with hx | hx
    · rcases List.mem_append.1 hx with hx | hx
      · obtain ⟨c, hc, rfl⟩ := List.mem_map.1 hx
        exact hU.1 c (List.mem_range.1 hc)
      · obtain ⟨i, hi, hx⟩ := List.mem_flatMap.1 hx
        rcases List.mem_cons.1 hx with rfl | hx
        · exact (hU.2 i (List.mem_range.1 hi)).1
        · rcases List.mem_cons.1 hx with rfl | hx
          · exact (hU.2 i (List.mem_range.1 hi)).2
          · cases hx
    · obtain ⟨i, hi, rfl⟩ := List.mem_map.1 hx
      have hi := List.mem_range.1 hi
      have := hT.cell hg i (by omega)
      rw [Lib.pow10Tab_at i hi] at this
      exact this
  · unfold tabsP at hx
    rcases List.mem_cons.1 hx with rfl | hx
    · exact err_cell hL (n := "strconv.ErrSyntax") (.tail _ (.tail _ (.tail _ (.tail _ (.tail _ (.head _)))))) (by kernel_rfl) (by kernel_rfl)
    · rcases List.mem_cons.1 hx with rfl | hx
      · exact err_cell hL (n := "strconv.ErrRange") (.tail _ (.tail _ (.tail _ (.tail _ (.head _))))) (by kernel_rfl) (by kernel_rfl)
      · cases hx
  · unfold tabsB at hx
    obtain rfl := List.mem_singleton.1 hx
    have h0 := hT.cell hg 0 (by omega)
    refine ⟨World.block_lt_of_cell? W _ h0, fun o ho => ?_⟩
    rw [World.var?_cell hg hT o]
    simp only [List.getElem?_toArray]
    rw [List.getElem?_eq_none (by rw [List.length_map, hlen]; exact ho)]
noncomputable def laidWorld (os : Os) : World :=
  let w0 := World.holding Tryd.prog os ⟨#[.cells #[.string ⟨#[118, 97, 108, 117, 101, 32, 111, 117, 116, 32, 111, 102, 32, 114, 97, 110, 103, 101]⟩] 144, .cells #[.string ⟨#[105, 110, 118, 97, 108, 105, 100, 32, 115, 121, 110, 116, 97, 120]⟩] 144], #[], []⟩
  let low := w0.heap.size - 2
  let put (h : Array Obj) (g : Nat) (cs : Array Value) : Array Obj := h.modify g fun
    | .cells _ t frozen => .cells cs t frozen
    | o => o
  let tab (d : DataW Unit) : Array Value := match d with
    | .agg ds => (ds.map fun | .lit (.int k n) => Value.int k n | _ => undef).toArray
    | _ => #[]
  let h1 := put w0.heap 6 (tab Rows.laid_math_bits_deBruijn32tab)
  let h2 := put h1 7 (tab Rows.laid_math_bits_deBruijn64tab)
  let h3 := put h2 3 (Lib.pow10Tab.map fun z => Value.int .u64 z).toArray
  let h4 := put h3 5 #[.iface 142 (.pointer (some ⟨low, 0, none⟩))]
  let h5 := put h4 4 #[.iface 142 (.pointer (some ⟨low + 1, 0, none⟩))]
  let h6 := put h5 1 (Lib.firstTab.map fun z => Value.int .u8 z).toArray
  let h7 := put h6 2 ((List.range 16).flatMap fun i => [Value.int .u8 (Lib.accLo i), Value.int .u8 (Lib.accHi i)]).toArray
  { w0 with heap := h7 }
theorem laid_met (os : Os) (args : Array Value) : laidMetH Tryd.prog laidL ((laidWorld os).forCall (fun _ _ => 0) ⟨#[], args, []⟩).memory := by
  have : laidMet Tryd.prog laidL ((laidWorld os).forCall (fun _ _ => 0) ⟨#[], args, []⟩).memory :=
    (LaidIn.of_run (l := laidL) (List.range 40) 16 (by kernel_rfl) (by kernel_rfl) (by kernel_rfl) (by kernel_rfl)).met
  exact this
end Go.Proofs.YtcijjgfadkflmaaDoor
end
