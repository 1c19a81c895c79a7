/-
  The law 'ValueThings' holds: for every input its call returns true and leaves what came in as it was. The tied card: the row with what is laid, closed by the given tie.
-/
import Derived.Test.YteohhklblbinbaaDoorUd
import Derived.Test.YteohhklblbinbaaDoorVa
import Derived.Test.YteohhklblbinbaaDoorCards
import Derived.ChangeSame
import Derived.ChangeVars
import Derived.JoinedOf
import Derived.LaidLaws
import Derived.LaidHandle
import Derived.SevenTiedAt
namespace Go.Proofs.YteohhklblbinbaaDoor.valueThings
open Go.AL Go.ChangeShapes Go.WideShapes
set_option maxRecDepth 100000

theorem isLaw : IsLaw Rows.valueThingsSpec Tryd.f4.params.size := ⟨rfl, fun H ds h => by
  match ds, h with
  | [d0, d1], _ => exact ⟨rfl, rfl, rfl⟩⟩

theorem tys : tysOf Tryd.prog Tryd.f4.params.toList = some [.agg [.int .i64, .int .i64, .str], .agg [.int .i64, .int .i64, .str]] := by kernel_rfl

theorem resT : Tryd.f4.resultTypes = #[4] := by kernel_rfl
theorem boolT : Tryd.prog.underlying 4 = some .bool := by kernel_rfl

theorem lifted (os : Os) (started : os.Started) (H : Type) (enc : TypeId × Value → H) :
    ReturnsInHanded {} Tryd.checked os 4 .any (fun w args => (Rows.valueThingsSpec.pre enc Tryd.prog Tryd.f4 [] false w args ∧ laidMetH Tryd.prog laidL w) ∧ sizedMet enc Tryd.prog Tryd.f4 (OpenSpec.ofChange Rows.valueThingsSpec) false w args) (Rows.valueThingsSpec.post enc Tryd.prog Tryd.f4 false true false false) := by
  refine returnsInHanded_of_change_and (C := Tryd.checked) (X := fun w _ => laidMetH Tryd.prog laidL w) (fun _ _ _ hh h => h.of_heap hh) hown started (by kernel_rfl) Tryd.func4
    (ChangeSpec.witness_at (enc := enc) (C := Tryd.checked) (os := os) (X := fun w _ => laidMetH Tryd.prog laidL w) false (laidWorld os) #[.agg #[.int .i64 0, .int .i64 0, .string ⟨#[]⟩], .agg #[.int .i64 0, .int .i64 0, .string ⟨#[]⟩]] 8 rfl (by kernel_rfl) (by kernel_rfl) (by kernel_rfl) (by kernel_rfl) (by kernel_rfl) (laid_met os _)) ?_
  intro W base args ds gs before hval hW _ hw hL _
  exact law_post isLaw resT boolT tys things_law hval hW hw (laid_tabs hL)

theorem over : Rows.valueThingsRow.holds Tryd.pinned (OpenSpec.ofChange Rows.valueThingsSpec) :=
  OpenClaim.holds_of_wide 4 Tryd.f4 rfl rfl rfl rfl rfl rfl rfl ⟨rfl, rfl, rfl, rfl, rfl⟩ rfl rfl rfl rfl rfl (by kernel_rfl) Tryd.func4 (by kernel_rfl)
    (of_decide_eq_true (by kernel_rfl)) (by unfold Func.isWrapper; first | (rw [if_pos (by decide +kernel)]; kernel_rfl) | (rw [if_neg (by decide +kernel)]; exact ⟨rfl, rfl⟩))
    (fun os started H enc _ => lifted os started H enc)

theorem noStand : (Tryd.f4.params.toList.all fun t => !Tryd.prog.wantsStandIn t) = true := by kernel_rfl

theorem proved : Rows.ValueThingsCardSaid :=
  Claim7.holds_tied_plain_at .later [] [.data, .data, .data, .sentinel, .sentinel] true (true, "5e36a12b553262cadc74f328f8db8d3b402154c0b88add6812a095fa22bc9507") true
    over (fun _ h => by cases h) (by kernel_rfl) (fun _ h => by cases h) valueThings_row_tie rfl ⟨rfl, rfl⟩ (by kernel_rfl) rfl
    (fun f fn hf hfn => by
      obtain rfl : f = 4 := Option.some.inj ((show Tryd.prog.funcNamed "cobweb/cobweblaw02.ValueThings" = some 4 by kernel_rfl).symm.trans hf) |>.symm
      obtain rfl : fn = Tryd.f4 := (Option.some.inj (Tryd.func4.symm.trans hfn)).symm
      exact ⟨by kernel_rfl, fun j t ht => by
        have hm : t ∈ Tryd.f4.params.toList := Array.mem_toList_iff.2 (Array.mem_of_getElem? ht)
        have := List.all_eq_true.1 noStand t hm
        exact (by simpa using this : Tryd.prog.wantsStandIn t = false)⟩)
    (by kernel_rfl)

#print axioms proved
end Go.Proofs.YteohhklblbinbaaDoor.valueThings
