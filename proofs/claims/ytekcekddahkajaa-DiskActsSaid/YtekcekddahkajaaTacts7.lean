/-
  The law 'DiskActs' holds: for every input its call returns true and leaves what came in as it was: no condition.
-/
import Derived.Test.YtekcekddahkajaaDQ
namespace Go.Proofs.Ytekcekddahkajaa.diskActs
open Go.AL Go.ChangeShapes Go.WideShapes
set_option maxRecDepth 100000

theorem isLaw : IsLaw Rows.diskActsSpec Try.f6.params.size := ⟨rfl, fun H ds h => by
  match ds, h with
  | [d0, d1], _ => exact ⟨rfl, rfl, rfl⟩⟩

theorem tys : tysOf Try.prog Try.f6.params.toList = some [.int .i64, .slice (.agg [.int .i64, .int .i64, .slice (.slice (.int .u8) 1 1) 1 24]) 3 40] := by kernel_rfl

theorem resT : Try.f6.resultTypes = #[4] := by kernel_rfl
theorem boolT : Try.prog.underlying 4 = some .bool := by kernel_rfl

theorem lifted (os : Os) (started : os.Started) (H : Type) (enc : TypeId × Value → H) :
    ReturnsInHanded {} Try.checked os 6 .any (Rows.diskActsSpec.pre6 enc Try.prog Try.f6 Rows.diskActsRow.domain false) (Rows.diskActsSpec.post enc Try.prog Try.f6 false true false false) := by
  refine returnsInHanded_of_change_sized (C := Try.checked) hown started (by kernel_rfl) Try.func6
    (ChangeSpec.witness6 (enc := enc) (C := Try.checked) false ⟨#[], #[.int .i64 0, .slice none 0 0], []⟩ 8 (by kernel_rfl) (by kernel_rfl) (by kernel_rfl) (by kernel_rfl)) ?_
  intro W base args ds gs before hval hW _ hw _
  exact law_post isLaw resT boolT tys acts_law hval hW hw ⟨fun x hx => (by cases hx), fun x hx => (by cases hx), fun x hx => (by cases hx)⟩

theorem over : Rows.diskActsRow.holds Try.pinned (OpenSpec.ofChange Rows.diskActsSpec) :=
  OpenClaim.holds_of_wide 6 Try.f6 rfl rfl rfl rfl rfl rfl rfl ⟨rfl, rfl, rfl, rfl, rfl⟩ rfl rfl rfl rfl rfl (by kernel_rfl) Try.func6 (by kernel_rfl)
    (of_decide_eq_true (by kernel_rfl)) (by unfold Func.isWrapper; first | (rw [if_pos (by decide +kernel)]; kernel_rfl) | (rw [if_neg (by decide +kernel)]; exact ⟨rfl, rfl⟩))
    (fun os started H enc _ => lifted os started H enc)

theorem proved : Rows.DiskActsSaid := over

#print axioms proved
end Go.Proofs.Ytekcekddahkajaa.diskActs
