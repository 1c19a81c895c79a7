/-
  The law 'LimboOnce' holds: for every input its call returns true and leaves what came in as it was: no condition.
-/
import Derived.Test.YtakidnohmfebmaaLQ
namespace Go.Proofs.Ytakidnohmfebmaa.limboOnce
open Go.AL Go.ChangeShapes Go.WideShapes
set_option maxRecDepth 100000

theorem isLaw : IsLaw Rows.limboOnceSpec Try.f3.params.size := ⟨rfl, fun H ds h => by
  match ds, h with
  | [d0, d1], _ => exact ⟨rfl, rfl, rfl⟩⟩

theorem tys : tysOf Try.prog Try.f3.params.toList = some [.slice (.agg [.int .i64, .int .i64, .int .i64, .str]) 4 40, .slice (.int .i64) 1 8] := by kernel_rfl

theorem resT : Try.f3.resultTypes = #[4] := by kernel_rfl
theorem boolT : Try.prog.underlying 4 = some .bool := by kernel_rfl

theorem lifted (os : Os) (started : os.Started) (H : Type) (enc : TypeId × Value → H) :
    ReturnsInHanded {} Try.checked os 3 .any (Rows.limboOnceSpec.pre6 enc Try.prog Try.f3 Rows.limboOnceRow.domain false) (Rows.limboOnceSpec.post enc Try.prog Try.f3 false true false false) := by
  refine returnsInHanded_of_change_sized (C := Try.checked) hown started (by kernel_rfl) Try.func3
    (ChangeSpec.witness6 (enc := enc) (C := Try.checked) false ⟨#[], #[.slice none 0 0, .slice none 0 0], []⟩ 8 (by kernel_rfl) (by kernel_rfl) (by kernel_rfl) (by kernel_rfl)) ?_
  intro W base args ds gs before hval hW _ hw _
  exact law_post isLaw resT boolT tys once_law hval hW hw ⟨fun x hx => (by cases hx), fun x hx => (by cases hx), fun x hx => (by cases hx)⟩

theorem over : Rows.limboOnceRow.holds Try.pinned (OpenSpec.ofChange Rows.limboOnceSpec) :=
  OpenClaim.holds_of_wide 3 Try.f3 rfl rfl rfl rfl rfl rfl rfl ⟨rfl, rfl, rfl, rfl, rfl⟩ rfl rfl rfl rfl rfl (by kernel_rfl) Try.func3 (by kernel_rfl)
    (of_decide_eq_true (by kernel_rfl)) (by unfold Func.isWrapper; first | (rw [if_pos (by decide +kernel)]; kernel_rfl) | (rw [if_neg (by decide +kernel)]; exact ⟨rfl, rfl⟩))
    (fun os started H enc _ => lifted os started H enc)

theorem proved : Rows.LimboOnceSaid := over

#print axioms proved
end Go.Proofs.Ytakidnohmfebmaa.limboOnce
