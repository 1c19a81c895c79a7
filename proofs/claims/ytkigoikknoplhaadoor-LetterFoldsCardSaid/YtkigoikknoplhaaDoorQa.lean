/-
  Seat 01 (letter): what is laid at a law's start: the two tables.
-/
import Derived.Test.YtkigoikknoplhaaDoorQp
import Derived.Test.YtkigoikknoplhaaDoorTie
import Derived.Lib.LaidU8T
import Derived.Lib.LaidIn
import Derived.LaidHandle
namespace Go.Proofs.YtkigoikknoplhaaDoor
open Go.AL Go.ChangeShapes Go.WideShapes Go.RowKit
set_option maxRecDepth 100000

def laidL : List (String × DataW Unit) := [("unicode/utf8.acceptRanges", Rows.laid_unicode_utf8_acceptRanges), ("unicode/utf8.first", Rows.laid_unicode_utf8_first)]
theorem first_eq : Rows.laid_unicode_utf8_first = Lib.firstData := by kernel_rfl
theorem accept_eq : (Rows.laid_unicode_utf8_acceptRanges : DataW Unit) = Lib.acceptData := by kernel_rfl
theorem laid_tabs {W : World} (h : laidMetH Tryd.prog laidL W) : ∀ x ∈ tabs, W.cell? ⟨x.1, x.2.1, none⟩ = some x.2.2 := by
  have hL : laidMet Tryd.prog laidL W := h
  have hT : Lib.Utf8Tabs 0 1 W :=
    utf8Tabs_of_readsT (U8Types.of260 Tryd.lays260) ⟨by kernel_rfl, by kernel_rfl, by kernel_rfl, by kernel_rfl, by kernel_rfl, by kernel_rfl, by kernel_rfl⟩ (first_eq ▸ Lib.laidMet.reads hL (.tail _ (.head _))) (accept_eq ▸ Lib.laidMet.reads hL (.head _))
  intro x hx
  unfold tabs at hx
  rcases List.mem_append.1 hx with hx | hx
  · obtain ⟨c, hc, rfl⟩ := List.mem_map.1 hx
    exact hT.1 c (List.mem_range.1 hc)
  · obtain ⟨i, hi, hx⟩ := List.mem_flatMap.1 hx
    rcases List.mem_cons.1 hx with rfl | hx
    · exact (hT.2 i (List.mem_range.1 hi)).1
    · rcases List.mem_cons.1 hx with rfl | hx
      · exact (hT.2 i (List.mem_range.1 hi)).2
      · cases hx
/-- A world in which the two tables are laid. -/
noncomputable def laidWorld (os : Os) : World :=
  let w0 := World.holding Tryd.prog os ⟨#[], #[], []⟩
  let put (h : Array Obj) (g : Nat) (cs : Array Value) : Array Obj := h.modify g fun
    | .cells _ t frozen => .cells cs t frozen
    | o => o
  let h1 := put w0.heap 0 (Lib.firstTab.map fun z => Value.int .u8 z).toArray
  let h2 := put h1 1 ((List.range 16).flatMap fun i => [Value.int .u8 (Lib.accLo i), Value.int .u8 (Lib.accHi i)]).toArray
  { w0 with heap := h2 }
theorem laid_met (os : Os) (args : Array Value) : laidMetH Tryd.prog laidL ((laidWorld os).forCall (fun _ _ => 0) ⟨#[], args, []⟩).memory := by
  have : laidMet Tryd.prog laidL ((laidWorld os).forCall (fun _ _ => 0) ⟨#[], args, []⟩).memory :=
    (LaidIn.of_run (l := laidL) [0, 1] 8 (by kernel_rfl) (by kernel_rfl) (by kernel_rfl) (by kernel_rfl)).met
  exact this
end Go.Proofs.YtkigoikknoplhaaDoor
