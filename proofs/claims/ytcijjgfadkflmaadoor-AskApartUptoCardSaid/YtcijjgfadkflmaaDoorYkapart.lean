/-
  The law 'AskApart' holds: for every input of bulk at most 1048576 its call returns true and leaves what came in as it was. The tied card: the row with what is laid, closed by the given tie.
-/
import Derived.Test.YtcijjgfadkflmaaDoorZ19
import Derived.Test.YtcijjgfadkflmaaDoorCards
import Derived.ChangeSame
import Derived.ChangeVars
import Derived.JoinedOf
import Derived.JoinedCond
import Derived.LaidLaws
import Derived.LaidHandle
import Derived.SevenTiedAt
namespace Go.Proofs.YtcijjgfadkflmaaDoor.askApartUpto
open Go.AL Go.ChangeShapes Go.WideShapes
set_option maxRecDepth 100000

theorem tys : tysOf Tryd.prog Tryd.f3.params.toList = some [.agg [.int .i64, .int .i64, .bool, .bool, .int .i64, .int .i64, .int .i64, .int .i64, .int .i64, .str, .str, .slice (.agg [.str, .int .i64, .int .i64, .str]) 4 48, .slice (.str) 1 16, .int .i64, .int .i64, .str, .int .i64, .int .i64, .str, .slice (.agg [.str, .str, .int .i64, .int .i64, .str, .int .i64, .int .i64, .str]) 8 96, .slice (.agg [.int .i64, .int .i64, .str]) 3 32], .agg [.int .i64, .int .i64, .bool, .bool, .int .i64, .int .i64, .int .i64, .int .i64, .int .i64, .str, .str, .slice (.agg [.str, .int .i64, .int .i64, .str]) 4 48, .slice (.str) 1 16, .int .i64, .int .i64, .str, .int .i64, .int .i64, .str, .slice (.agg [.str, .str, .int .i64, .int .i64, .str, .int .i64, .int .i64, .str]) 8 96, .slice (.agg [.int .i64, .int .i64, .str]) 3 32]] := by kernel_rfl

theorem resT : Tryd.f3.resultTypes = #[4] := by kernel_rfl
theorem boolT : Tryd.prog.underlying 4 = some .bool := by kernel_rfl

abbrev S : OpenSpec := Rows.OpenSpec.upto Rows.askApartSpec
abbrev wArgs : Array Value := #[.agg #[.int .i64 0, .int .i64 0, .bool false, .bool false, .int .i64 0, .int .i64 0, .int .i64 0, .int .i64 0, .int .i64 0, .string ⟨#[]⟩, .string ⟨#[]⟩, .slice none 0 0, .slice none 0 0, .int .i64 0, .int .i64 0, .string ⟨#[]⟩, .int .i64 0, .int .i64 0, .string ⟨#[]⟩, .slice none 0 0, .slice none 0 0], .agg #[.int .i64 0, .int .i64 0, .bool false, .bool false, .int .i64 0, .int .i64 0, .int .i64 0, .int .i64 0, .int .i64 0, .string ⟨#[]⟩, .string ⟨#[]⟩, .slice none 0 0, .slice none 0 0, .int .i64 0, .int .i64 0, .string ⟨#[]⟩, .int .i64 0, .int .i64 0, .string ⟨#[]⟩, .slice none 0 0, .slice none 0 0]]
theorem witU (os : Os) (H : Type) (enc : TypeId × Value → H) (w0 : World) (args : Array Value) (fuel : Nat) (hos : w0.os = os)
    (hv : (w0.forCall (fun _ _ => 0) ⟨#[], args, []⟩).variablesB Tryd.prog = true)
    (hr : ((w0.forCall (fun _ _ => 0) ⟨#[], args, []⟩).heap.toList.drop Tryd.prog.globals.size).take ((begin Tryd.prog (fun _ _ => 0) default).world.heap.size - Tryd.prog.globals.size) =
      (begin Tryd.prog (fun _ _ => 0) default).world.heap.toList.drop Tryd.prog.globals.size)
    (hok : Input.okWideB Tryd.prog (w0.forCall (fun _ _ => 0) ⟨#[], args, []⟩) 3 ⟨#[], args, []⟩ = true)
    (hx : (match DataW.whole enc Tryd.prog (w0.forCall (fun _ _ => 0) ⟨#[], args, []⟩).memory Tryd.f3.params.toList S.vars false args.toList fuel with
      | some x => Rows.uptoSmall H (x.1 ++ x.2.1)
      | none => false) = true)
    (hsz : S.bare.sizedB enc Tryd.prog Tryd.f3 false (w0.forCall (fun _ _ => 0) ⟨#[], args, []⟩).memory args fuel = true)
    (hl : laidMetH Tryd.prog laidL (w0.forCall (fun _ _ => 0) ⟨#[], args, []⟩).memory) :
    ∃ (w : World) (tape : Tape) (i : Input), w.os = os ∧ (w.forCall tape i).Shaped Tryd.prog ∧ i.vars = [] ∧ Input.okWide Tryd.prog (w.forCall tape i) .any w.heap.size 3 i ∧
      ((S.pre enc Tryd.prog Tryd.f3 [] false (w.forCall tape i).memory i.args ∧ laidMetH Tryd.prog laidL (w.forCall tape i).memory) ∧ sizedMet enc Tryd.prog Tryd.f3 S false (w.forCall tape i).memory i.args) ∧
      ({} : Assume).holds Tryd.prog (lone (Frame.enter Tryd.prog 3 i.args .normal) [] (w.forCall tape i)) := by
  cases hw : DataW.whole enc Tryd.prog (w0.forCall (fun _ _ => 0) ⟨#[], args, []⟩).memory Tryd.f3.params.toList S.vars false args.toList fuel with
  | none => rw [hw] at hx; cases hx
  | some x =>
    rw [hw] at hx
    refine ⟨w0, fun _ _ => 0, ⟨#[], args, []⟩, hos, World.shaped_of_B hv hr, (Input.okWide_of_okWideB (base := 0) hok).1, (Input.okWide_of_okWideB hok).2,
      ⟨⟨(OpenSpec.pre_some (s := S) (k := Rows.uptoSmall) rfl [] false _ _).2 ⟨x.1, x.2.1, x.2.2, DataW.Whole_of_whole hw, rfl, hx⟩, hl⟩, sizedMet_of_sizedB hsz⟩, ?_⟩
    simp only [Assume.holds]
    exact ⟨by simp, by simp, by simp, by simp, by simp⟩

theorem isLawAt (G : Stop.Interp) : IsLaw (S.at G) Tryd.f3.params.size := ⟨rfl, fun H ds h => by
  match ds, h with
  | [d0, d1], _ => exact ⟨rfl, rfl, rfl⟩⟩

theorem lifted (os : Os) (started : os.Started) (H : Type) (enc : TypeId × Value → H) (G : Stop.Interp) :
    ReturnsInHanded {} Tryd.checked os 3 .any (fun w args => (S.pre enc Tryd.prog Tryd.f3 [] false w args ∧ laidMetH Tryd.prog laidL w) ∧ sizedMet enc Tryd.prog Tryd.f3 S false w args) ((S.at G).post enc Tryd.prog Tryd.f3 false true false false) := by
  refine returnsInHanded_of_calls (C := Tryd.checked) hown started (by kernel_rfl) (witU os H enc (laidWorld os) wArgs 8 rfl (by kernel_rfl) (by kernel_rfl) (by kernel_rfl) (by kernel_rfl) (by kernel_rfl) (laid_met os _)) ?_
  intro w tape i _ _ _ hok hpre hholds
  obtain ⟨_, _, _, fn', hfn', _, _, _, _, hval⟩ := hok
  have e : fn' = Tryd.f3 := Option.some.inj (hfn'.symm.trans Tryd.func3)
  subst e
  obtain ⟨⟨hp, hx⟩, hz⟩ := hpre
  obtain ⟨ds, gs, before, hw, hc, hkk⟩ := (OpenSpec.pre_some (s := S) (k := Rows.uptoSmall) rfl [] false _ _).1 hp
  have hw' := DataW.Whole.of_heap (w' := w.forCall tape i) (by rfl) hw
  have hL : laidMetH Tryd.prog laidL (w.forCall tape i) := laidMetH.of_heap (by rfl) hx
  refine (Go.ALB.law_postB (enc := enc) (apart := false) (fresh := true) (handsOn := false) (again := false) (isLawAt G) resT boolT tys ask_law hval hw' (hz.weights hw) (of_decide_eq_true hkk) (laid_tabs hL)).mono fun e W' ⟨v, he, hp⟩ => ?_
  subst he
  exact ChangeSpec.post_blind hp

theorem over : Rows.askApartUptoRow.holds Tryd.pinned S :=
  OpenClaim.holds_of_cond 3 Tryd.f3 rfl rfl rfl rfl rfl rfl rfl ⟨rfl, rfl, rfl, rfl, rfl⟩ rfl rfl rfl rfl rfl (by kernel_rfl) Tryd.func3 (by kernel_rfl)
    (of_decide_eq_true (by kernel_rfl)) (by unfold Func.isWrapper; first | (rw [if_pos (by decide +kernel)]; kernel_rfl) | (rw [if_neg (by decide +kernel)]; exact ⟨rfl, rfl⟩))
    (fun os started H enc _ G => lifted os started H enc G)

theorem noStand : (Tryd.f3.params.toList.all fun t => !Tryd.prog.wantsStandIn t) = true := by kernel_rfl

theorem proved : Rows.AskApartUptoCardSaid :=
  Claim7.holds_tied_plain_at .later [] [.data, .data, .data, .data, .sentinel, .sentinel, .pinned] true (true, "b5861d3771cf8d2745964c2f17ee2ca4242286bdf99ff99d655ce9208ff5c311") true
    over (fun _ h => by cases h) (by kernel_rfl) (fun _ h => by cases h) askApartUpto_row_tie rfl ⟨rfl, rfl⟩ (by kernel_rfl) rfl
    (fun f fn hf hfn => by
      obtain rfl : f = 3 := Option.some.inj ((show Tryd.prog.funcNamed "cobweb/cobweblaw23.AskApart" = some 3 by kernel_rfl).symm.trans hf) |>.symm
      obtain rfl : fn = Tryd.f3 := (Option.some.inj (Tryd.func3.symm.trans hfn)).symm
      exact ⟨by kernel_rfl, fun j t ht => by
        have hm : t ∈ Tryd.f3.params.toList := Array.mem_toList_iff.2 (Array.mem_of_getElem? ht)
        have := List.all_eq_true.1 noStand t hm
        exact (by simpa using this : Tryd.prog.wantsStandIn t = false)⟩)
    (by kernel_rfl)

#print axioms proved
end Go.Proofs.YtcijjgfadkflmaaDoor.askApartUpto
