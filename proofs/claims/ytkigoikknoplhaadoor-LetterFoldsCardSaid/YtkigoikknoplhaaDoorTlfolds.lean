/-
  The law 'LetterFolds' holds: for every input its call returns true and leaves what came in as it was. The tied card: the row with the two tables of unicode/utf8 laid, closed by the given tie.
-/
import Derived.Test.YtkigoikknoplhaaDoorRg
import Derived.Test.YtkigoikknoplhaaDoorQa
import Derived.Test.YtkigoikknoplhaaDoorCards
import Derived.ChangeSame
import Derived.ChangeVars
import Derived.JoinedOf
import Derived.LaidLaws
import Derived.LaidHandle
import Derived.SevenTiedAt
namespace Go.Proofs.YtkigoikknoplhaaDoor.letterFolds
open Go.AL Go.ChangeShapes Go.WideShapes
set_option maxRecDepth 100000

theorem isLaw : IsLaw Rows.letterFoldsSpec Tryd.f5.params.size := ⟨rfl, fun H ds h => by
  match ds, h with
  | [d0, d1], _ => exact ⟨rfl, rfl, rfl⟩⟩

theorem tys : tysOf Tryd.prog Tryd.f5.params.toList = some [.str, .int .i64] := by kernel_rfl

theorem resT : Tryd.f5.resultTypes = #[4] := by kernel_rfl
theorem boolT : Tryd.prog.underlying 4 = some .bool := by kernel_rfl

theorem lifted (os : Os) (started : os.Started) (H : Type) (enc : TypeId × Value → H) :
    ReturnsInHanded {} Tryd.checked os 5 .any (fun w args => (Rows.letterFoldsSpec.pre enc Tryd.prog Tryd.f5 [] false w args ∧ laidMetH Tryd.prog laidL w) ∧ sizedMet enc Tryd.prog Tryd.f5 (OpenSpec.ofChange Rows.letterFoldsSpec) false w args) (Rows.letterFoldsSpec.post enc Tryd.prog Tryd.f5 false true false false) := by
  refine returnsInHanded_of_change_and (C := Tryd.checked) (X := fun w _ => laidMetH Tryd.prog laidL w) (fun _ _ _ hh h => h.of_heap hh) hown started (by kernel_rfl) Tryd.func5
    (ChangeSpec.witness_at (enc := enc) (C := Tryd.checked) (os := os) (X := fun w _ => laidMetH Tryd.prog laidL w) false (laidWorld os) #[.string ⟨#[]⟩, .int .i64 0] 8 rfl (by kernel_rfl) (by kernel_rfl) (by kernel_rfl) (by kernel_rfl) (by kernel_rfl) (laid_met os _)) ?_
  intro W base args ds gs before hval hW _ hw hL _
  exact law_post isLaw resT boolT tys folds_law hval hW hw (laid_tabs hL)

theorem over : Rows.letterFoldsRow.holds Tryd.pinned (OpenSpec.ofChange Rows.letterFoldsSpec) :=
  OpenClaim.holds_of_wide 5 Tryd.f5 rfl rfl rfl rfl rfl rfl rfl ⟨rfl, rfl, rfl, rfl, rfl⟩ rfl rfl rfl rfl rfl (by kernel_rfl) Tryd.func5 (by kernel_rfl)
    (of_decide_eq_true (by kernel_rfl)) (by unfold Func.isWrapper; first | (rw [if_pos (by decide +kernel)]; kernel_rfl) | (rw [if_neg (by decide +kernel)]; exact ⟨rfl, rfl⟩))
    (fun os started H enc _ => lifted os started H enc)

theorem noStand : (Tryd.f5.params.toList.all fun t => !Tryd.prog.wantsStandIn t) = true := by kernel_rfl

theorem proved : Rows.LetterFoldsCardSaid :=
  Claim7.holds_tied_plain_at .later [] [.data, .pinned] true (true, "b7cea680bc7b6f1487339b2ee64be374d54d96033c0c2af4207a8d561b35afb1") false
    over (fun _ h => by cases h) (by kernel_rfl) (fun _ h => by cases h) letterFolds_row_tie rfl ⟨rfl, rfl⟩ (by kernel_rfl) rfl
    (fun f fn hf hfn => by
      obtain rfl : f = 5 := Option.some.inj ((show Tryd.prog.funcNamed "cobweb/cobweblaw01.LetterFolds" = some 5 by kernel_rfl).symm.trans hf) |>.symm
      obtain rfl : fn = Tryd.f5 := (Option.some.inj (Tryd.func5.symm.trans hfn)).symm
      exact ⟨by kernel_rfl, fun j t ht => by
        have hm : t ∈ Tryd.f5.params.toList := Array.mem_toList_iff.2 (Array.mem_of_getElem? ht)
        have := List.all_eq_true.1 noStand t hm
        exact (by simpa using this : Tryd.prog.wantsStandIn t = false)⟩)
    (by kernel_rfl)

#print axioms proved
end Go.Proofs.YtkigoikknoplhaaDoor.letterFolds
