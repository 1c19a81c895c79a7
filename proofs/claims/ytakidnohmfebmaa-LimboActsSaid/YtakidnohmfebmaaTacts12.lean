/-
  The law 'LimboActs' holds: for every input its call returns true and leaves what came in as it was: no condition.
-/
import Derived.Test.YtakidnohmfebmaaMo
namespace Go.Proofs.Ytakidnohmfebmaa.limboActs
open Go.AL Go.ChangeShapes Go.WideShapes
set_option maxRecDepth 100000

theorem isLaw : IsLaw Rows.limboActsSpec Try.f5.params.size := ⟨rfl, fun H ds h => by
  match ds, h with
  | [d0], _ => exact ⟨rfl, rfl, rfl⟩⟩

theorem tys : tysOf Try.prog Try.f5.params.toList = some [.slice (.agg [.int .i64, .int .i64, .slice (.agg [.int .i64, .int .i64, .int .i64, .str]) 4 40]) 3 40] := by kernel_rfl

theorem resT : Try.f5.resultTypes = #[4] := by kernel_rfl
theorem boolT : Try.prog.underlying 4 = some .bool := by kernel_rfl

theorem lifted (os : Os) (started : os.Started) (H : Type) (enc : TypeId × Value → H) :
    ReturnsInHanded {} Try.checked os 5 .any (Rows.limboActsSpec.pre6 enc Try.prog Try.f5 Rows.limboActsRow.domain false) (Rows.limboActsSpec.post enc Try.prog Try.f5 false true false false) := by
  refine returnsInHanded_of_change_sized (C := Try.checked) hown started (by kernel_rfl) Try.func5
    (ChangeSpec.witness6 (enc := enc) (C := Try.checked) false ⟨#[], #[.slice none 0 0], []⟩ 8 (by kernel_rfl) (by kernel_rfl) (by kernel_rfl) (by kernel_rfl)) ?_
  intro W base args ds gs before hval hW _ hw _
  exact law_post isLaw resT boolT tys acts_law hval hW hw ⟨fun x hx => (by cases hx), fun x hx => (by cases hx), fun x hx => (by cases hx)⟩

theorem over : Rows.limboActsRow.holds Try.pinned (OpenSpec.ofChange Rows.limboActsSpec) :=
  OpenClaim.holds_of_wide 5 Try.f5 rfl rfl rfl rfl rfl rfl rfl ⟨rfl, rfl, rfl, rfl, rfl⟩ rfl rfl rfl rfl rfl (by kernel_rfl) Try.func5 (by kernel_rfl)
    (of_decide_eq_true (by kernel_rfl)) (by unfold Func.isWrapper; first | (rw [if_pos (by decide +kernel)]; kernel_rfl) | (rw [if_neg (by decide +kernel)]; exact ⟨rfl, rfl⟩))
    (fun os started H enc _ => lifted os started H enc)

theorem proved : Rows.LimboActsSaid := over

#print axioms proved
end Go.Proofs.Ytakidnohmfebmaa.limboActs
