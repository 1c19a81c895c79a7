/-
  The law 'LeafBytes' holds: for every input its call returns true and leaves what came in as it was: no condition.
-/
import Derived.Test.YtlfnmhfmikomkaaZ7
namespace Go.Proofs.Ytlfnmhfmikomkaa.leafBytes
open Go.AL Go.ChangeShapes Go.WideShapes
set_option maxRecDepth 100000

theorem isLaw : IsLaw Rows.leafBytesSpec Try.f8.params.size := ⟨rfl, fun H ds h => by
  match ds, h with
  | [d0, d1, d2], _ => exact ⟨rfl, rfl, rfl⟩⟩

theorem tys : tysOf Try.prog Try.f8.params.toList = some [.agg [.slice (.str) 1 16, .slice (.int .i64) 1 8, .slice (.agg [.int .i64, .slice (.str) 1 16, .bool]) 3 40], .int .i64, .str] := by kernel_rfl

theorem resT : Try.f8.resultTypes = #[4] := by kernel_rfl
theorem boolT : Try.prog.underlying 4 = some .bool := by kernel_rfl

theorem lifted (os : Os) (started : os.Started) (H : Type) (enc : TypeId × Value → H) :
    ReturnsInHanded {} Try.checked os 8 .any (Rows.leafBytesSpec.pre6 enc Try.prog Try.f8 Rows.leafBytesRow.domain false) (Rows.leafBytesSpec.post enc Try.prog Try.f8 false true false false) := by
  refine returnsInHanded_of_change_sized (C := Try.checked) hown started (by kernel_rfl) Try.func8
    (ChangeSpec.witness6 (enc := enc) (C := Try.checked) false ⟨#[], #[.agg #[.slice none 0 0, .slice none 0 0, .slice none 0 0], .int .i64 0, .string ⟨#[]⟩], []⟩ 8 (by kernel_rfl) (by kernel_rfl) (by kernel_rfl) (by kernel_rfl)) ?_
  intro W base args ds gs before hval hW _ hw _
  exact law_post isLaw resT boolT tys bytes_law hval hW hw

theorem over : Rows.leafBytesRow.holds Try.pinned (OpenSpec.ofChange Rows.leafBytesSpec) :=
  OpenClaim.holds_of_wide 8 Try.f8 rfl rfl rfl rfl rfl rfl rfl ⟨rfl, rfl, rfl, rfl, rfl⟩ rfl rfl rfl rfl rfl (by kernel_rfl) Try.func8 (by kernel_rfl)
    (of_decide_eq_true (by kernel_rfl)) (by unfold Func.isWrapper; first | (rw [if_pos (by decide +kernel)]; kernel_rfl) | (rw [if_neg (by decide +kernel)]; exact ⟨rfl, rfl⟩))
    (fun os started H enc _ => lifted os started H enc)

theorem proved : Rows.LeafBytesSaid := over

#print axioms proved
end Go.Proofs.Ytlfnmhfmikomkaa.leafBytes
