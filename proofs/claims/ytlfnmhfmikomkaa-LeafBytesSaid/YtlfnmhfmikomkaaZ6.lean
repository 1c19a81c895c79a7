/-
  The texts Fs, Fd, Ft, Fg, Fu, Fo, Fp, Fq of this seat, one behind the other.
-/
import Derived.Test.YtlfnmhfmikomkaaZ5
import Derived.KernelRfl

section
set_option maxRecDepth 100000
set_option maxHeartbeats 0
set_option linter.unusedVariables false
namespace Go.Proofs.Ytlfnmhfmikomkaa
open Go.AL Go.Proofs
noncomputable def cRoot : Cfg := { keep := [0, 1, 2, 3, 5, 8, 9, 10, 11, 20], cut := [(7, [1, 3, 8, 9, 10], [1]), (18, [1], [1])], out := [6], orc := ofList [riseE] }
noncomputable def cRootR : Cfg := { keep := [0, 1, 2, 3, 4, 18, 23, 31, 34, 47], cut := [(9, [1, 3], [1]), (19, [1, 3, 4], [1]), (10, [1, 3], [1]), (26, [], [])], orc := ofList [riseRE] }
noncomputable def cLeaf : Cfg := { keep := [0, 1, 2], cut := [], orc := ofList [riseE] }
noncomputable def cLeafR : Cfg := { keep := [0, 1, 2], cut := [], orc := ofList [riseRE] }
noncomputable def cAt : Cfg := { keep := [0, 1, 2, 4, 5, 6, 14], cut := [], orc := ofList [bsE] }
noncomputable def cAtR : Cfg := { keep := [0, 1, 2, 4, 5, 6, 11, 21], cut := [(7, [1, 2, 5, 6], [2]), (14, [5], [])], orc := ofList [ordE] }
noncomputable def cFind : Cfg := { keep := [0, 1, 2, 4, 7], cut := [], orc := ofList [rootE, atE] }
noncomputable def cFindR : Cfg := { keep := [0, 1, 2, 4, 7], cut := [], orc := ofList [rootRE, atRE] }
noncomputable def code_12_ : Code := (Try.f12.body).getD .skip
noncomputable def code_26_ : Code := (Try.f26.body).getD .skip
noncomputable def code_38_ : Code := (Try.f38.body).getD .skip
noncomputable def code_41_ : Code := (Try.f41.body).getD .skip
noncomputable def code_47_ : Code := (Try.f47.body).getD .skip
noncomputable def code_48_ : Code := (Try.f48.body).getD .skip
noncomputable def code_51_ : Code := (Try.f51.body).getD .skip
noncomputable def code_54_ : Code := (Try.f54.body).getD .skip
noncomputable def code_41_1_1_1 : Code := codeAt code_41_ [1, 1, 1]
noncomputable def code_47_1_1_1 : Code := codeAt code_47_ [1, 1, 1]
noncomputable def code_51_1_1_1 : Code := codeAt code_51_ [1, 1, 1]
noncomputable def code_41_1_1_0_1_0_0 : Code := codeAt code_41_ [1, 1, 0, 1, 0, 0]
noncomputable def code_47_1_1_0_1_0_0 : Code := codeAt code_47_ [1, 1, 0, 1, 0, 0]
noncomputable def code_51_1_1_0_1_0_0 : Code := codeAt code_51_ [1, 1, 0, 1, 0, 0]
noncomputable def code_47_1_1_0_1_0_0_1_1 : Code := codeAt code_47_ [1, 1, 0, 1, 0, 0, 1, 1]
noncomputable def code_47_1_1_0_1_0_0_1_0_0_1_1_0_0 : Code := codeAt code_47_ [1, 1, 0, 1, 0, 0, 1, 0, 0, 1, 1, 0, 0]
theorem root_r (r : Root) (Q : AVal → Sto → Prop) : vc Try.prog cRoot code_41_ (endK Try.prog Try.f41.results.toList Q) (St.start Try.f41.ntmps [rootV r] (Sto.empty)) =
  (loopV (fun s => St.norm [] [1, 3, 8, 9, 10] [1] s) (vc Try.prog cRoot code_41_1_1_0_1_0_0) (blockK 0 (thenK (fun s => cutV (vc Try.prog cRoot code_41_1_1_1 (endK Try.prog (Array.toList (Go.Func.results Try.f41)) Q)) (St.norm [] [1] [1] s)) (endK Try.prog (Array.toList (Go.Func.results Try.f41)) Q))) (St.mk 37 [(1, AVal.ptr (Oid.loc 1) 0), (3, AVal.map (Oid.out 0)), (8, AVal.slice (iv (Prod.snd r)) 1 Tag.ro), (9, AVal.int IntKind.i64 (↑(List.length (iv (Prod.snd r))) : Int)), (10, AVal.int IntKind.i64 (0 : Int))] [] [(1, AObj.cells [AVal.slice (strv (Prod.fst r)) 1 Tag.ro, AVal.slice (iv (Prod.snd r)) 1 Tag.ro])] (Sto.push Sto.empty (AObj.map [])))) := by kernel_rfl
theorem root_i (r : Root) (Q : AVal → Sto → Prop) (ho : OrcOk Try.prog cRoot) (h : loopV (fun s => St.norm [] [1, 3, 8, 9, 10] [1] s) (vc Try.prog cRoot code_41_1_1_0_1_0_0) (blockK 0 (thenK (fun s => cutV (vc Try.prog cRoot code_41_1_1_1 (endK Try.prog (Array.toList (Go.Func.results Try.f41)) Q)) (St.norm [] [1] [1] s)) (endK Try.prog (Array.toList (Go.Func.results Try.f41)) Q))) (St.mk 37 [(1, AVal.ptr (Oid.loc 1) 0), (3, AVal.map (Oid.out 0)), (8, AVal.slice (iv (Prod.snd r)) 1 Tag.ro), (9, AVal.int IntKind.i64 (↑(List.length (iv (Prod.snd r))) : Int)), (10, AVal.int IntKind.i64 (0 : Int))] [] [(1, AObj.cells [AVal.slice (strv (Prod.fst r)) 1 Tag.ro, AVal.slice (iv (Prod.snd r)) 1 Tag.ro])] (Sto.push Sto.empty (AObj.map [])))) : ACall Try.prog 41 [rootV r] (Sto.empty) Q :=
  ACall.intro hmix Try.func41 (c := code_41_) (by kernel_rfl) cRoot ho (Nat.le_of_ble_eq_true (by kernel_rfl)) (by rw [root_r]; exact h)
noncomputable def rootL_S (r : Root) (m : List (Int × Bool)) (n i : Nat) : St := St.mk 37 [(1, .ptr (.loc 1) 0), (3, .map (.out 0)), (8, .slice (iv r.2) 1 .ro), (9, .int .i64 (n : Int)), (10, .int .i64 (i : Int))] [] [(1, .cells (rootC r))] (Sto.push Sto.empty (.map (mb m)))
theorem rootL_r (r : Root) (m : List (Int × Bool)) (n i : Nat) (L : St → Prop) (K : Exit → St → Prop) : vc Try.prog cRoot code_41_1_1_0_1_0_0 (thenK (fun s => L (St.norm [] [1, 3, 8, 9, 10] [1] s)) K) (St.mk 37 [(1, .ptr (.loc 1) 0), (3, .map (.out 0)), (8, .slice (iv r.2) 1 .ro), (9, .int .i64 (n : Int)), (10, .int .i64 (i : Int))] [] [(1, .cells (rootC r))] (Sto.push Sto.empty (.map (mb m)))) =
  (brV (hold (decide ((↑i : Int) < (↑n : Int)))) true (gb (decide ((0 : Int) ≤ (↑i : Int) ∧ (↑i : Int) < (↑(List.length (iv (Prod.snd r))) : Int))) (gb (decide (1 ≤ List.length (elemAt (iv (Prod.snd r)) (↑i : Int)) ∧ 0 < 1) && etaOk (Sh.int IntKind.i64) (List.getD (elemAt (iv (Prod.snd r)) (↑i : Int)) 0 AVal.undef)) (brV (hold (decide (AVal.intOf (List.getD (elemAt (iv (Prod.snd r)) (↑i : Int)) 0 AVal.undef) < (1 : Int)))) false (gb (keysOk Try.prog 3 (mb m) && etaOk Sh.bool (mapVal (AVal.int IntKind.i64 (AVal.intOf (List.getD (elemAt (iv (Prod.snd r)) (↑i : Int)) 0 AVal.undef))) (AVal.bool false) (mb m))) (brV (AVal.boolOf (mapVal (AVal.int IntKind.i64 (AVal.intOf (List.getD (elemAt (iv (Prod.snd r)) (↑i : Int)) 0 AVal.undef))) (AVal.bool false) (mb m))) true (K Exit.ret (St.mk 37 [(1, AVal.ptr (Oid.loc 1) 0), (3, AVal.map (Oid.out 0)), (8, AVal.slice (iv (Prod.snd r)) 1 Tag.ro), (9, AVal.int IntKind.i64 (↑n : Int)), (10, AVal.int IntKind.i64 (↑i : Int)), (11, AVal.bool (hold (decide ((↑i : Int) < (↑n : Int))))), (5, AVal.int IntKind.i64 (AVal.intOf (List.getD (elemAt (iv (Prod.snd r)) (↑i : Int)) 0 AVal.undef))), (20, AVal.bool (AVal.boolOf (mapVal (AVal.int IntKind.i64 (AVal.intOf (List.getD (elemAt (iv (Prod.snd r)) (↑i : Int)) 0 AVal.undef))) (AVal.bool false) (mb m)))), (2, AVal.bool false)] [] [(1, AObj.cells [AVal.slice (strv (Prod.fst r)) 1 Tag.ro, AVal.slice (iv (Prod.snd r)) 1 Tag.ro])] (Sto.push Sto.empty (AObj.map (mb m))))) (gb (keysOk Try.prog 3 (mb m) && true) (L (St.mk 37 [(1, AVal.ptr (Oid.loc 1) 0), (3, AVal.map (Oid.out 0)), (8, AVal.slice (iv (Prod.snd r)) 1 Tag.ro), (9, AVal.int IntKind.i64 (↑n : Int)), (10, AVal.int IntKind.i64 (IntKind.wrap IntKind.i64 ((↑i : Int) + (1 : Int))))] [] [(1, AObj.cells [AVal.slice (strv (Prod.fst r)) 1 Tag.ro, AVal.slice (iv (Prod.snd r)) 1 Tag.ro])] (Sto.set (Sto.push Sto.empty (AObj.map (mb m))) 0 (AObj.map (mapPut (AVal.int IntKind.i64 (AVal.intOf (List.getD (elemAt (iv (Prod.snd r)) (↑i : Int)) 0 AVal.undef))) (AVal.bool true) (mb m))))))))) (K Exit.ret (St.mk 37 [(1, AVal.ptr (Oid.loc 1) 0), (3, AVal.map (Oid.out 0)), (8, AVal.slice (iv (Prod.snd r)) 1 Tag.ro), (9, AVal.int IntKind.i64 (↑n : Int)), (10, AVal.int IntKind.i64 (↑i : Int)), (11, AVal.bool (hold (decide ((↑i : Int) < (↑n : Int))))), (5, AVal.int IntKind.i64 (AVal.intOf (List.getD (elemAt (iv (Prod.snd r)) (↑i : Int)) 0 AVal.undef))), (20, AVal.bool true), (2, AVal.bool false)] [] [(1, AObj.cells [AVal.slice (strv (Prod.fst r)) 1 Tag.ro, AVal.slice (iv (Prod.snd r)) 1 Tag.ro])] (Sto.push Sto.empty (AObj.map (mb m)))))))) (K (Exit.exit 0) (St.mk 37 [(1, AVal.ptr (Oid.loc 1) 0), (3, AVal.map (Oid.out 0)), (8, AVal.slice (iv (Prod.snd r)) 1 Tag.ro), (9, AVal.int IntKind.i64 (↑n : Int)), (10, AVal.int IntKind.i64 (↑i : Int)), (11, AVal.bool (hold (decide ((↑i : Int) < (↑n : Int)))))] [] [(1, AObj.cells [AVal.slice (strv (Prod.fst r)) 1 Tag.ro, AVal.slice (iv (Prod.snd r)) 1 Tag.ro])] (Sto.push Sto.empty (AObj.map (mb m)))))) := by kernel_rfl
noncomputable def rootF_S (r : Root) (σ : Sto) (σ : Sto) : St := St.mk 37 [(1, .ptr (.loc 1) 0)] [] [(1, .cells (rootC r))] (σ)
theorem rootF_r (r : Root) (σ : Sto) (σ : Sto) (Q : AVal → Sto → Prop) : vc Try.prog cRoot code_41_1_1_1 (endK Try.prog Try.f41.results.toList Q) (St.mk 37 [(1, .ptr (.loc 1) 0)] [] [(1, .cells (rootC r))] (σ)) =
  (brV (hold ((↑(List.length (iv (Prod.snd r))) : Int) == IntKind.wrap IntKind.i64 ((↑(List.length (strv (Prod.fst r))) : Int) + (1 : Int)))) true (gb (List.all (strv (Prod.fst r)) strIs && lenOk (List.length (strv (Prod.fst r)))) (Q (AVal.bool (hold (riseL (List.map AVal.strOf (strv (Prod.fst r)))))) σ)) (Q (AVal.bool false) σ)) := by kernel_rfl
theorem rootR_r (r : Root) (Q : AVal → Sto → Prop) : vc Try.prog cRootR code_47_ (endK Try.prog Try.f47.results.toList Q) (St.start Try.f47.ntmps [rootV r] (Sto.empty)) =
  (brV (hold ((↑(List.length (iv (Prod.snd r))) : Int) != IntKind.wrap IntKind.i64 ((↑(List.length (strv (Prod.fst r))) : Int) + (1 : Int)))) false (gb (List.all (strv (Prod.fst r)) strIs && (hold (shortL (List.map AVal.strOf (strv (Prod.fst r)))) && lenOk (List.length (strv (Prod.fst r))))) (brV (!hold (riseL (List.map AVal.strOf (strv (Prod.fst r))))) true (Q (AVal.bool false) Sto.empty) (loopV (fun s => St.norm [] [1, 3] [1] s) (vc Try.prog cRootR code_47_1_1_0_1_0_0) (blockK 0 (thenK (fun s => cutV (vc Try.prog cRootR code_47_1_1_1 (endK Try.prog (Array.toList (Go.Func.results Try.f47)) Q)) (St.norm [] [] [] s)) (endK Try.prog (Array.toList (Go.Func.results Try.f47)) Q))) (St.mk 48 [(1, AVal.ptr (Oid.loc 1) 0), (3, AVal.int IntKind.i64 (0 : Int))] [] [(1, AObj.cells [AVal.slice (strv (Prod.fst r)) 1 Tag.ro, AVal.slice (iv (Prod.snd r)) 1 Tag.ro])] Sto.empty)))) (Q (AVal.bool false) Sto.empty)) := by kernel_rfl
theorem rootR_i (r : Root) (Q : AVal → Sto → Prop) (ho : OrcOk Try.prog cRootR) (h : brV (hold ((↑(List.length (iv (Prod.snd r))) : Int) != IntKind.wrap IntKind.i64 ((↑(List.length (strv (Prod.fst r))) : Int) + (1 : Int)))) false (gb (List.all (strv (Prod.fst r)) strIs && (hold (shortL (List.map AVal.strOf (strv (Prod.fst r)))) && lenOk (List.length (strv (Prod.fst r))))) (brV (!hold (riseL (List.map AVal.strOf (strv (Prod.fst r))))) true (Q (AVal.bool false) Sto.empty) (loopV (fun s => St.norm [] [1, 3] [1] s) (vc Try.prog cRootR code_47_1_1_0_1_0_0) (blockK 0 (thenK (fun s => cutV (vc Try.prog cRootR code_47_1_1_1 (endK Try.prog (Array.toList (Go.Func.results Try.f47)) Q)) (St.norm [] [] [] s)) (endK Try.prog (Array.toList (Go.Func.results Try.f47)) Q))) (St.mk 48 [(1, AVal.ptr (Oid.loc 1) 0), (3, AVal.int IntKind.i64 (0 : Int))] [] [(1, AObj.cells [AVal.slice (strv (Prod.fst r)) 1 Tag.ro, AVal.slice (iv (Prod.snd r)) 1 Tag.ro])] Sto.empty)))) (Q (AVal.bool false) Sto.empty)) : ACall Try.prog 47 [rootV r] (Sto.empty) Q :=
  ACall.intro hmix Try.func47 (c := code_47_) (by kernel_rfl) cRootR ho (Nat.le_of_ble_eq_true (by kernel_rfl)) (by rw [rootR_r]; exact h)
noncomputable def rootRL_S (r : Root) (i : Nat) : St := St.mk 48 [(1, .ptr (.loc 1) 0), (3, .int .i64 (i : Int))] [] [(1, .cells (rootC r))] (Sto.empty)
theorem rootRL_r (r : Root) (i : Nat) (L : St → Prop) (K : Exit → St → Prop) : vc Try.prog cRootR code_47_1_1_0_1_0_0 (thenK (fun s => L (St.norm [] [1, 3] [1] s)) K) (St.mk 48 [(1, .ptr (.loc 1) 0), (3, .int .i64 (i : Int))] [] [(1, .cells (rootC r))] (Sto.empty)) =
  (brV (hold (decide ((↑i : Int) < (↑(List.length (iv (Prod.snd r))) : Int)))) true (gb (decide ((0 : Int) ≤ (↑i : Int) ∧ (↑i : Int) < (↑(List.length (iv (Prod.snd r))) : Int))) (gb (decide (1 ≤ List.length (elemAt (iv (Prod.snd r)) (↑i : Int)) ∧ 0 < 1) && etaOk (Sh.int IntKind.i64) (List.getD (elemAt (iv (Prod.snd r)) (↑i : Int)) 0 AVal.undef)) (brV (hold (decide (AVal.intOf (List.getD (elemAt (iv (Prod.snd r)) (↑i : Int)) 0 AVal.undef) < (1 : Int)))) true (K Exit.ret (St.mk 48 [(1, AVal.ptr (Oid.loc 1) 0), (3, AVal.int IntKind.i64 (↑i : Int)), (23, AVal.bool (hold (decide ((↑i : Int) < (↑(List.length (iv (Prod.snd r))) : Int))))), (31, AVal.bool (hold (decide (AVal.intOf (List.getD (elemAt (iv (Prod.snd r)) (↑i : Int)) 0 AVal.undef) < (1 : Int))))), (2, AVal.bool false)] [] [(1, AObj.cells [AVal.slice (strv (Prod.fst r)) 1 Tag.ro, AVal.slice (iv (Prod.snd r)) 1 Tag.ro])] Sto.empty)) (loopV (fun s => St.norm [] [1, 3, 4] [1] s) (vc Try.prog cRootR code_47_1_1_0_1_0_0_1_0_0_1_1_0_0) (blockK 2 (blockK 1 (thenK (fun s => cutV (vc Try.prog cRootR code_47_1_1_0_1_0_0_1_1 (thenK (fun s => L (St.norm [] [1, 3] [1] s)) K)) (St.norm [] [1, 3] [1] s)) (thenK (fun s => L (St.norm [] [1, 3] [1] s)) K)))) (St.mk 48 [(1, AVal.ptr (Oid.loc 1) 0), (3, AVal.int IntKind.i64 (↑i : Int)), (4, AVal.int IntKind.i64 (0 : Int))] [] [(1, AObj.cells [AVal.slice (strv (Prod.fst r)) 1 Tag.ro, AVal.slice (iv (Prod.snd r)) 1 Tag.ro])] Sto.empty))))) (K (Exit.exit 0) (St.mk 48 [(1, AVal.ptr (Oid.loc 1) 0), (3, AVal.int IntKind.i64 (↑i : Int)), (23, AVal.bool (hold (decide ((↑i : Int) < (↑(List.length (iv (Prod.snd r))) : Int)))))] [] [(1, AObj.cells [AVal.slice (strv (Prod.fst r)) 1 Tag.ro, AVal.slice (iv (Prod.snd r)) 1 Tag.ro])] Sto.empty))) := by kernel_rfl
noncomputable def rootRM_S (r : Root) (i k : Nat) : St := St.mk 48 [(1, .ptr (.loc 1) 0), (3, .int .i64 (i : Int)), (4, .int .i64 (k : Int))] [] [(1, .cells (rootC r))] (Sto.empty)
theorem rootRM_r (r : Root) (i k : Nat) (L : St → Prop) (K : Exit → St → Prop) : vc Try.prog cRootR code_47_1_1_0_1_0_0_1_0_0_1_1_0_0 (thenK (fun s => L (St.norm [] [1, 3, 4] [1] s)) K) (St.mk 48 [(1, .ptr (.loc 1) 0), (3, .int .i64 (i : Int)), (4, .int .i64 (k : Int))] [] [(1, .cells (rootC r))] (Sto.empty)) =
  (brV (hold (decide ((↑k : Int) < (↑i : Int)))) true (gb (decide ((0 : Int) ≤ (↑k : Int) ∧ (↑k : Int) < (↑(List.length (iv (Prod.snd r))) : Int))) (gb (decide (1 ≤ List.length (elemAt (iv (Prod.snd r)) (↑k : Int)) ∧ 0 < 1) && etaOk (Sh.int IntKind.i64) (List.getD (elemAt (iv (Prod.snd r)) (↑k : Int)) 0 AVal.undef)) (gb (decide ((0 : Int) ≤ (↑i : Int) ∧ (↑i : Int) < (↑(List.length (iv (Prod.snd r))) : Int))) (gb (decide (1 ≤ List.length (elemAt (iv (Prod.snd r)) (↑i : Int)) ∧ 0 < 1) && etaOk (Sh.int IntKind.i64) (List.getD (elemAt (iv (Prod.snd r)) (↑i : Int)) 0 AVal.undef)) (brV (hold (AVal.intOf (List.getD (elemAt (iv (Prod.snd r)) (↑k : Int)) 0 AVal.undef) == AVal.intOf (List.getD (elemAt (iv (Prod.snd r)) (↑i : Int)) 0 AVal.undef))) true (K Exit.ret (St.mk 48 [(1, AVal.ptr (Oid.loc 1) 0), (3, AVal.int IntKind.i64 (↑i : Int)), (4, AVal.int IntKind.i64 (↑k : Int)), (34, AVal.bool (hold (decide ((↑k : Int) < (↑i : Int))))), (47, AVal.bool (hold (AVal.intOf (List.getD (elemAt (iv (Prod.snd r)) (↑k : Int)) 0 AVal.undef) == AVal.intOf (List.getD (elemAt (iv (Prod.snd r)) (↑i : Int)) 0 AVal.undef)))), (2, AVal.bool false)] [] [(1, AObj.cells [AVal.slice (strv (Prod.fst r)) 1 Tag.ro, AVal.slice (iv (Prod.snd r)) 1 Tag.ro])] Sto.empty)) (L (St.mk 48 [(1, AVal.ptr (Oid.loc 1) 0), (3, AVal.int IntKind.i64 (↑i : Int)), (4, AVal.int IntKind.i64 (IntKind.wrap IntKind.i64 ((↑k : Int) + (1 : Int))))] [] [(1, AObj.cells [AVal.slice (strv (Prod.fst r)) 1 Tag.ro, AVal.slice (iv (Prod.snd r)) 1 Tag.ro])] Sto.empty))))))) (K (Exit.exit 2) (St.mk 48 [(1, AVal.ptr (Oid.loc 1) 0), (3, AVal.int IntKind.i64 (↑i : Int)), (4, AVal.int IntKind.i64 (↑k : Int)), (34, AVal.bool (hold (decide ((↑k : Int) < (↑i : Int)))))] [] [(1, AObj.cells [AVal.slice (strv (Prod.fst r)) 1 Tag.ro, AVal.slice (iv (Prod.snd r)) 1 Tag.ro])] Sto.empty))) := by kernel_rfl
noncomputable def rootRN_S (r : Root) (i : Nat) : St := St.mk 48 [(1, .ptr (.loc 1) 0), (3, .int .i64 (i : Int))] [] [(1, .cells (rootC r))] (Sto.empty)
theorem rootRN_r (r : Root) (i : Nat) (K : Exit → St → Prop) : vc Try.prog cRootR code_47_1_1_0_1_0_0_1_1 K (St.mk 48 [(1, .ptr (.loc 1) 0), (3, .int .i64 (i : Int))] [] [(1, .cells (rootC r))] (Sto.empty)) =
  (K Exit.normal (St.mk 48 [(1, AVal.ptr (Oid.loc 1) 0), (3, AVal.int IntKind.i64 (IntKind.wrap IntKind.i64 ((↑i : Int) + (1 : Int))))] [] [(1, AObj.cells [AVal.slice (strv (Prod.fst r)) 1 Tag.ro, AVal.slice (iv (Prod.snd r)) 1 Tag.ro])] Sto.empty)) := by kernel_rfl
noncomputable def rootRF_S  : St := St.mk 48 [] [] [] (Sto.empty)
theorem rootRF_r  (Q : AVal → Sto → Prop) : vc Try.prog cRootR code_47_1_1_1 (endK Try.prog Try.f47.results.toList Q) (St.mk 48 [] [] [] (Sto.empty)) =
  (Q (AVal.bool true) Sto.empty) := by kernel_rfl
theorem leaf_r (l : Lf) (Q : AVal → Sto → Prop) : vc Try.prog cLeaf code_54_ (endK Try.prog Try.f54.results.toList Q) (St.start Try.f54.ntmps [lfV l] (Sto.empty)) =
  (brV (!Prod.snd (Prod.snd l)) true (brV (hold (decide ((↑(List.length (strv (Prod.fst (Prod.snd l)))) : Int) ≤ (4 : Int)))) true (gb (List.all (strv (Prod.fst (Prod.snd l))) strIs && lenOk (List.length (strv (Prod.fst (Prod.snd l))))) (Q (AVal.bool (hold (riseL (List.map AVal.strOf (strv (Prod.fst (Prod.snd l))))))) Sto.empty)) (Q (AVal.bool false) Sto.empty)) (Q (AVal.bool false) Sto.empty)) := by kernel_rfl
theorem leaf_i (l : Lf) (Q : AVal → Sto → Prop) (ho : OrcOk Try.prog cLeaf) (h : brV (!Prod.snd (Prod.snd l)) true (brV (hold (decide ((↑(List.length (strv (Prod.fst (Prod.snd l)))) : Int) ≤ (4 : Int)))) true (gb (List.all (strv (Prod.fst (Prod.snd l))) strIs && lenOk (List.length (strv (Prod.fst (Prod.snd l))))) (Q (AVal.bool (hold (riseL (List.map AVal.strOf (strv (Prod.fst (Prod.snd l))))))) Sto.empty)) (Q (AVal.bool false) Sto.empty)) (Q (AVal.bool false) Sto.empty)) : ACall Try.prog 54 [lfV l] (Sto.empty) Q :=
  ACall.intro hmix Try.func54 (c := code_54_) (by kernel_rfl) cLeaf ho (Nat.le_of_ble_eq_true (by kernel_rfl)) (by rw [leaf_r]; exact h)
theorem leafR_r (l : Lf) (Q : AVal → Sto → Prop) : vc Try.prog cLeafR code_48_ (endK Try.prog Try.f48.results.toList Q) (St.start Try.f48.ntmps [lfV l] (Sto.empty)) =
  (brV (!Prod.snd (Prod.snd l)) true (brV (hold (decide ((↑(List.length (strv (Prod.fst (Prod.snd l)))) : Int) ≤ (4 : Int)))) true (gb (List.all (strv (Prod.fst (Prod.snd l))) strIs && (hold (shortL (List.map AVal.strOf (strv (Prod.fst (Prod.snd l))))) && lenOk (List.length (strv (Prod.fst (Prod.snd l)))))) (Q (AVal.bool (hold (riseL (List.map AVal.strOf (strv (Prod.fst (Prod.snd l))))))) Sto.empty)) (Q (AVal.bool false) Sto.empty)) (Q (AVal.bool false) Sto.empty)) := by kernel_rfl
theorem leafR_i (l : Lf) (Q : AVal → Sto → Prop) (ho : OrcOk Try.prog cLeafR) (h : brV (!Prod.snd (Prod.snd l)) true (brV (hold (decide ((↑(List.length (strv (Prod.fst (Prod.snd l)))) : Int) ≤ (4 : Int)))) true (gb (List.all (strv (Prod.fst (Prod.snd l))) strIs && (hold (shortL (List.map AVal.strOf (strv (Prod.fst (Prod.snd l))))) && lenOk (List.length (strv (Prod.fst (Prod.snd l)))))) (Q (AVal.bool (hold (riseL (List.map AVal.strOf (strv (Prod.fst (Prod.snd l))))))) Sto.empty)) (Q (AVal.bool false) Sto.empty)) (Q (AVal.bool false) Sto.empty)) : ACall Try.prog 48 [lfV l] (Sto.empty) Q :=
  ACall.intro hmix Try.func48 (c := code_48_) (by kernel_rfl) cLeafR ho (Nat.le_of_ble_eq_true (by kernel_rfl)) (by rw [leafR_r]; exact h)
theorem at_r (r : Root) (s : Txt) (Q : AVal → Sto → Prop) : vc Try.prog cAt code_38_ (endK Try.prog Try.f38.results.toList Q) (St.start Try.f38.ntmps [rootV r, .str s] (Sto.empty)) =
  (∀ (y : Nat), y = posN (List.map AVal.strOf (strv (Prod.fst r))) s → ∀ (y_1 : Bool), y_1 = List.contains (List.map AVal.strOf (strv (Prod.fst r))) s → gb (List.all (strv (Prod.fst r)) strIs && (hold (riseL (List.map AVal.strOf (strv (Prod.fst r)))) && lenOk (List.length (strv (Prod.fst r))))) (brV (hold y_1) true (Q (AVal.int IntKind.i64 (IntKind.wrap IntKind.i64 ((↑y : Int) + (1 : Int)))) Sto.empty) (Q (AVal.int IntKind.i64 (↑y : Int)) Sto.empty))) := by kernel_rfl
theorem at_i (r : Root) (s : Txt) (Q : AVal → Sto → Prop) (ho : OrcOk Try.prog cAt) (h : ∀ (y : Nat), y = posN (List.map AVal.strOf (strv (Prod.fst r))) s → ∀ (y_1 : Bool), y_1 = List.contains (List.map AVal.strOf (strv (Prod.fst r))) s → gb (List.all (strv (Prod.fst r)) strIs && (hold (riseL (List.map AVal.strOf (strv (Prod.fst r)))) && lenOk (List.length (strv (Prod.fst r))))) (brV (hold y_1) true (Q (AVal.int IntKind.i64 (IntKind.wrap IntKind.i64 ((↑y : Int) + (1 : Int)))) Sto.empty) (Q (AVal.int IntKind.i64 (↑y : Int)) Sto.empty))) : ACall Try.prog 38 [rootV r, .str s] (Sto.empty) Q :=
  ACall.intro hmix Try.func38 (c := code_38_) (by kernel_rfl) cAt ho (Nat.le_of_ble_eq_true (by kernel_rfl)) (by rw [at_r]; exact h)
theorem atR_r (r : Root) (s : Txt) (Q : AVal → Sto → Prop) : vc Try.prog cAtR code_51_ (endK Try.prog Try.f51.results.toList Q) (St.start Try.f51.ntmps [rootV r, .str s] (Sto.empty)) =
  (loopV (fun s => St.norm [] [1, 2, 5, 6] [2] s) (vc Try.prog cAtR code_51_1_1_0_1_0_0) (blockK 0 (thenK (fun s => cutV (vc Try.prog cAtR code_51_1_1_1 (endK Try.prog (Array.toList (Go.Func.results Try.f51)) Q)) (St.norm [] [5] [] s)) (endK Try.prog (Array.toList (Go.Func.results Try.f51)) Q))) (St.mk 25 [(1, AVal.str s), (2, AVal.ptr (Oid.loc 2) 0), (5, AVal.int IntKind.i64 (0 : Int)), (6, AVal.int IntKind.i64 (0 : Int))] [] [(2, AObj.cells [AVal.slice (strv (Prod.fst r)) 1 Tag.ro, AVal.slice (iv (Prod.snd r)) 1 Tag.ro])] Sto.empty)) := by kernel_rfl
theorem atR_i (r : Root) (s : Txt) (Q : AVal → Sto → Prop) (ho : OrcOk Try.prog cAtR) (h : loopV (fun s => St.norm [] [1, 2, 5, 6] [2] s) (vc Try.prog cAtR code_51_1_1_0_1_0_0) (blockK 0 (thenK (fun s => cutV (vc Try.prog cAtR code_51_1_1_1 (endK Try.prog (Array.toList (Go.Func.results Try.f51)) Q)) (St.norm [] [5] [] s)) (endK Try.prog (Array.toList (Go.Func.results Try.f51)) Q))) (St.mk 25 [(1, AVal.str s), (2, AVal.ptr (Oid.loc 2) 0), (5, AVal.int IntKind.i64 (0 : Int)), (6, AVal.int IntKind.i64 (0 : Int))] [] [(2, AObj.cells [AVal.slice (strv (Prod.fst r)) 1 Tag.ro, AVal.slice (iv (Prod.snd r)) 1 Tag.ro])] Sto.empty)) : ACall Try.prog 51 [rootV r, .str s] (Sto.empty) Q :=
  ACall.intro hmix Try.func51 (c := code_51_) (by kernel_rfl) cAtR ho (Nat.le_of_ble_eq_true (by kernel_rfl)) (by rw [atR_r]; exact h)
noncomputable def atRL_S (r : Root) (s : Txt) (p i : Nat) : St := St.mk 25 [(1, .str s), (2, .ptr (.loc 2) 0), (5, .int .i64 (p : Int)), (6, .int .i64 (i : Int))] [] [(2, .cells (rootC r))] (Sto.empty)
theorem atRL_r (r : Root) (s : Txt) (p i : Nat) (L : St → Prop) (K : Exit → St → Prop) : vc Try.prog cAtR code_51_1_1_0_1_0_0 (thenK (fun s => L (St.norm [] [1, 2, 5, 6] [2] s)) K) (St.mk 25 [(1, .str s), (2, .ptr (.loc 2) 0), (5, .int .i64 (p : Int)), (6, .int .i64 (i : Int))] [] [(2, .cells (rootC r))] (Sto.empty)) =
  (brV (hold (decide ((↑i : Int) < (↑(List.length (strv (Prod.fst r))) : Int)))) true (gb (decide ((0 : Int) ≤ (↑i : Int) ∧ (↑i : Int) < (↑(List.length (strv (Prod.fst r))) : Int))) (gb (decide (1 ≤ List.length (elemAt (strv (Prod.fst r)) (↑i : Int)) ∧ 0 < 1) && etaOk Sh.str (List.getD (elemAt (strv (Prod.fst r)) (↑i : Int)) 0 AVal.undef)) (gb (hold (decide (List.length (AVal.strOf (List.getD (elemAt (strv (Prod.fst r)) (↑i : Int)) 0 AVal.undef)) ≤ 1000000))) (brV (hold (decide (ordT (AVal.strOf (List.getD (elemAt (strv (Prod.fst r)) (↑i : Int)) 0 AVal.undef)) s ≤ (0 : Int)))) true (L (St.mk 25 [(1, AVal.str s), (2, AVal.ptr (Oid.loc 2) 0), (5, AVal.int IntKind.i64 (IntKind.wrap IntKind.i64 ((↑p : Int) + (1 : Int)))), (6, AVal.int IntKind.i64 (IntKind.wrap IntKind.i64 ((↑i : Int) + (1 : Int))))] [] [(2, AObj.cells [AVal.slice (strv (Prod.fst r)) 1 Tag.ro, AVal.slice (iv (Prod.snd r)) 1 Tag.ro])] Sto.empty)) (L (St.mk 25 [(1, AVal.str s), (2, AVal.ptr (Oid.loc 2) 0), (5, AVal.int IntKind.i64 (↑p : Int)), (6, AVal.int IntKind.i64 (IntKind.wrap IntKind.i64 ((↑i : Int) + (1 : Int))))] [] [(2, AObj.cells [AVal.slice (strv (Prod.fst r)) 1 Tag.ro, AVal.slice (iv (Prod.snd r)) 1 Tag.ro])] Sto.empty)))))) (K (Exit.exit 0) (St.mk 25 [(1, AVal.str s), (2, AVal.ptr (Oid.loc 2) 0), (5, AVal.int IntKind.i64 (↑p : Int)), (6, AVal.int IntKind.i64 (↑i : Int)), (11, AVal.bool (hold (decide ((↑i : Int) < (↑(List.length (strv (Prod.fst r))) : Int)))))] [] [(2, AObj.cells [AVal.slice (strv (Prod.fst r)) 1 Tag.ro, AVal.slice (iv (Prod.snd r)) 1 Tag.ro])] Sto.empty))) := by kernel_rfl
noncomputable def atRF_S (p : Nat) : St := St.mk 25 [(5, .int .i64 (p : Int))] [] [] (Sto.empty)
theorem atRF_r (p : Nat) (Q : AVal → Sto → Prop) : vc Try.prog cAtR code_51_1_1_1 (endK Try.prog Try.f51.results.toList Q) (St.mk 25 [(5, .int .i64 (p : Int))] [] [] (Sto.empty)) =
  (Q (AVal.int IntKind.i64 (↑p : Int)) Sto.empty) := by kernel_rfl
theorem find_r (r : Root) (s : Txt) (Q : AVal → Sto → Prop) : vc Try.prog cFind code_12_ (endK Try.prog Try.f12.results.toList Q) (St.start Try.f12.ntmps [rootV r, .str s] (Sto.empty)) =
  (gb (rootG (AVal.agg [AVal.slice (strv (Prod.fst r)) 1 Tag.ro, AVal.slice (iv (Prod.snd r)) 1 Tag.ro])) (brV (!hold (rootB (List.map AVal.strOf (strv (Prod.fst r)), List.map AVal.intOf (iv (Prod.snd r))))) true (Q (AVal.int IntKind.i64 (0 : Int)) Sto.empty) (∀ (y : Nat), y = atN (List.map AVal.strOf (strv (Prod.fst r))) s → gb (rootG (AVal.agg [AVal.slice (strv (Prod.fst r)) 1 Tag.ro, AVal.slice (iv (Prod.snd r)) 1 Tag.ro]) && hold (riseL (List.map AVal.strOf (strv (Prod.fst r))))) (gb (decide ((0 : Int) ≤ (↑y : Int) ∧ (↑y : Int) < (↑(List.length (iv (Prod.snd r))) : Int))) (gb (decide (1 ≤ List.length (elemAt (iv (Prod.snd r)) (↑y : Int)) ∧ 0 < 1) && etaOk (Sh.int IntKind.i64) (List.getD (elemAt (iv (Prod.snd r)) (↑y : Int)) 0 AVal.undef)) (Q (AVal.int IntKind.i64 (AVal.intOf (List.getD (elemAt (iv (Prod.snd r)) (↑y : Int)) 0 AVal.undef))) Sto.empty)))))) := by kernel_rfl
theorem find_i (r : Root) (s : Txt) (Q : AVal → Sto → Prop) (ho : OrcOk Try.prog cFind) (h : gb (rootG (AVal.agg [AVal.slice (strv (Prod.fst r)) 1 Tag.ro, AVal.slice (iv (Prod.snd r)) 1 Tag.ro])) (brV (!hold (rootB (List.map AVal.strOf (strv (Prod.fst r)), List.map AVal.intOf (iv (Prod.snd r))))) true (Q (AVal.int IntKind.i64 (0 : Int)) Sto.empty) (∀ (y : Nat), y = atN (List.map AVal.strOf (strv (Prod.fst r))) s → gb (rootG (AVal.agg [AVal.slice (strv (Prod.fst r)) 1 Tag.ro, AVal.slice (iv (Prod.snd r)) 1 Tag.ro]) && hold (riseL (List.map AVal.strOf (strv (Prod.fst r))))) (gb (decide ((0 : Int) ≤ (↑y : Int) ∧ (↑y : Int) < (↑(List.length (iv (Prod.snd r))) : Int))) (gb (decide (1 ≤ List.length (elemAt (iv (Prod.snd r)) (↑y : Int)) ∧ 0 < 1) && etaOk (Sh.int IntKind.i64) (List.getD (elemAt (iv (Prod.snd r)) (↑y : Int)) 0 AVal.undef)) (Q (AVal.int IntKind.i64 (AVal.intOf (List.getD (elemAt (iv (Prod.snd r)) (↑y : Int)) 0 AVal.undef))) Sto.empty)))))) : ACall Try.prog 12 [rootV r, .str s] (Sto.empty) Q :=
  ACall.intro hmix Try.func12 (c := code_12_) (by kernel_rfl) cFind ho (Nat.le_of_ble_eq_true (by kernel_rfl)) (by rw [find_r]; exact h)
theorem findR_r (r : Root) (s : Txt) (Q : AVal → Sto → Prop) : vc Try.prog cFindR code_26_ (endK Try.prog Try.f26.results.toList Q) (St.start Try.f26.ntmps [rootV r, .str s] (Sto.empty)) =
  (gb (rootH (AVal.agg [AVal.slice (strv (Prod.fst r)) 1 Tag.ro, AVal.slice (iv (Prod.snd r)) 1 Tag.ro])) (brV (!hold (rootB (List.map AVal.strOf (strv (Prod.fst r)), List.map AVal.intOf (iv (Prod.snd r))))) true (Q (AVal.int IntKind.i64 (0 : Int)) Sto.empty) (∀ (y : Nat), y = atN (List.map AVal.strOf (strv (Prod.fst r))) s → gb (rootH (AVal.agg [AVal.slice (strv (Prod.fst r)) 1 Tag.ro, AVal.slice (iv (Prod.snd r)) 1 Tag.ro])) (gb (decide ((0 : Int) ≤ (↑y : Int) ∧ (↑y : Int) < (↑(List.length (iv (Prod.snd r))) : Int))) (gb (decide (1 ≤ List.length (elemAt (iv (Prod.snd r)) (↑y : Int)) ∧ 0 < 1) && etaOk (Sh.int IntKind.i64) (List.getD (elemAt (iv (Prod.snd r)) (↑y : Int)) 0 AVal.undef)) (Q (AVal.int IntKind.i64 (AVal.intOf (List.getD (elemAt (iv (Prod.snd r)) (↑y : Int)) 0 AVal.undef))) Sto.empty)))))) := by kernel_rfl
theorem findR_i (r : Root) (s : Txt) (Q : AVal → Sto → Prop) (ho : OrcOk Try.prog cFindR) (h : gb (rootH (AVal.agg [AVal.slice (strv (Prod.fst r)) 1 Tag.ro, AVal.slice (iv (Prod.snd r)) 1 Tag.ro])) (brV (!hold (rootB (List.map AVal.strOf (strv (Prod.fst r)), List.map AVal.intOf (iv (Prod.snd r))))) true (Q (AVal.int IntKind.i64 (0 : Int)) Sto.empty) (∀ (y : Nat), y = atN (List.map AVal.strOf (strv (Prod.fst r))) s → gb (rootH (AVal.agg [AVal.slice (strv (Prod.fst r)) 1 Tag.ro, AVal.slice (iv (Prod.snd r)) 1 Tag.ro])) (gb (decide ((0 : Int) ≤ (↑y : Int) ∧ (↑y : Int) < (↑(List.length (iv (Prod.snd r))) : Int))) (gb (decide (1 ≤ List.length (elemAt (iv (Prod.snd r)) (↑y : Int)) ∧ 0 < 1) && etaOk (Sh.int IntKind.i64) (List.getD (elemAt (iv (Prod.snd r)) (↑y : Int)) 0 AVal.undef)) (Q (AVal.int IntKind.i64 (AVal.intOf (List.getD (elemAt (iv (Prod.snd r)) (↑y : Int)) 0 AVal.undef))) Sto.empty)))))) : ACall Try.prog 26 [rootV r, .str s] (Sto.empty) Q :=
  ACall.intro hmix Try.func26 (c := code_26_) (by kernel_rfl) cFindR ho (Nat.le_of_ble_eq_true (by kernel_rfl)) (by rw [findR_r]; exact h)
end Go.Proofs.Ytlfnmhfmikomkaa
end

section
namespace Go.Proofs.Ytlfnmhfmikomkaa
open Go.AL
set_option linter.unusedSimpArgs false
set_option linter.unusedVariables false
set_option maxHeartbeats 4000000
set_option maxRecDepth 20000

theorem rootG_spec {v : AVal} (h : rootG v = true) : rootIs v = true ∧ (rootOf v).1.length ≤ 140737488351232 ∧ (rootOf v).2.length ≤ 140737488351232 := by
  simp only [rootG, Bool.and_eq_true] at h
  exact ⟨h.1, lenOk_of h.2.1, lenOk_of h.2.2⟩
theorem rootH_spec {v : AVal} (h : rootH v = true) : (rootIs v = true ∧ (rootOf v).1.length ≤ 140737488351232 ∧ (rootOf v).2.length ≤ 140737488351232) ∧ shortL (rootOf v).1 = true := by
  simp only [rootH, Bool.and_eq_true, hold_eq] at h
  exact ⟨rootG_spec h.1, h.2⟩
theorem rootG_mk {r : Root} (h1 : r.1.length ≤ 140737488351232) (h2 : r.2.length ≤ 140737488351232) : rootG (rootV r) = true := by
  simp [rootG, lenOk_mk h1, lenOk_mk h2]
theorem rootH_mk {r : Root} (h1 : r.1.length ≤ 140737488351232) (h2 : r.2.length ≤ 140737488351232) (h3 : shortL r.1 = true) : rootH (rootV r) = true := by
  simp [rootH, rootG_mk h1 h2, h3]
theorem lfG_spec {v : AVal} (h : lfG v = true) : lfIs v = true ∧ (lfOf v).2.1.length ≤ 140737488351232 := by
  simp only [lfG, Bool.and_eq_true] at h
  exact ⟨h.1, lenOk_of h.2⟩
theorem lfH_spec {v : AVal} (h : lfH v = true) : (lfIs v = true ∧ (lfOf v).2.1.length ≤ 140737488351232) ∧ shortL (lfOf v).2.1 = true := by
  simp only [lfH, Bool.and_eq_true, hold_eq] at h
  exact ⟨lfG_spec h.1, h.2⟩
theorem lfG_mk {l : Lf} (h1 : l.2.1.length ≤ 140737488351232) : lfG (lfV l) = true := by simp [lfG, lenOk_mk h1]
theorem lfH_mk {l : Lf} (h1 : l.2.1.length ≤ 140737488351232) (h3 : shortL l.2.1 = true) : lfH (lfV l) = true := by simp [lfH, lfG_mk h1, h3]
theorem fold_root (r : Root) : AVal.agg [AVal.slice (strv (Prod.fst r)) 1 Tag.ro, AVal.slice (iv (Prod.snd r)) 1 Tag.ro] = rootV r := rfl
theorem fold_lf (l : Lf) : AVal.agg [AVal.int .i64 (Prod.fst l), AVal.slice (strv (Prod.fst (Prod.snd l))) 1 Tag.ro, AVal.bool (Prod.snd (Prod.snd l))] = lfV l := rfl

theorem mem_take_succ {α : Type} {l : List α} {i : Nat} (h : i < l.length) {x : α} : x ∈ l.take (i + 1) ↔ x ∈ l.take i ∨ x = l[i] := by
  rw [List.take_succ_eq_append_getElem h, List.mem_append, List.mem_singleton]

theorem nodup_iff_lt {l : List Int} : l.Nodup ↔ ∀ i (hi : i < l.length) k (hk : k < i), l[k] ≠ l[i] := by
  rw [List.nodup_iff_pairwise_ne, List.pairwise_iff_getElem]
  exact ⟨fun h i hi k hk => h k i (by omega) hi hk, fun h i j hi hj hij => h j hj i hij⟩

theorem int_leaf : leafOf Try.prog 3 = some (.int .i64) := by kernel_rfl

theorem root_c (r : Root) (h1 : r.1.length ≤ 140737488351232) (h2 : r.2.length ≤ 140737488351232) : ACall Try.prog 41 [rootV r] Sto.empty fun v _ => Wk v (.bool (rootB r)) := by
  refine root_i _ _ (.of [riseE] rfl ⟨rise_ok, trivial⟩) ?_
  have hn : (iv r.2).length = r.2.length := iv_length r.2
  have hn1 : (strv r.1).length = r.1.length := strv_length r.1
  refine loopV_intro (α := List (Int × Bool) × Nat) (fun x => rootL_S r x.1 (iv r.2).length x.2) (fun x => x.2 ≤ r.2.length ∧ (∀ k, getI x.1 k = if k ∈ r.2.take x.2 then some true else none) ∧ (∀ n ∈ r.2.take x.2, 1 ≤ n) ∧ (r.2.take x.2).Nodup) (fun x => r.2.length - x.2) ?_ ([], 0) ⟨Nat.zero_le _, fun k => by simp [getI_nil], by simp, by simp⟩
  rintro ⟨m, i⟩ ⟨hi, hm, hp, hd⟩ L hL
  simp only [] at hi hm hp hd
  refine Eq.mpr (rootL_r r m _ i L _) ?_
  simp only [hold_eq]
  refine brV_by (fun h => ?_) (fun h => ?_)
  · have hlt : i < r.2.length := by simpa using h
    rw [i64_succ hlt h2, elemAt_iv r.2 i hlt]
    have hg : AVal.intOf (List.getD [AVal.int .i64 r.2[i]] 0 AVal.undef) = r.2[i] := rfl
    rw [hg]
    have hv : mapVal (AVal.int IntKind.i64 r.2[i]) (AVal.bool false) (mb m) = .bool (decide (r.2[i] ∈ r.2.take i)) := by
      rw [mb, mapVal_mi, hm]
      by_cases hmem : r.2[i] ∈ r.2.take i
      · rw [if_pos hmem]; simp [hmem]
      · rw [if_neg hmem]; simp [hmem]
    rw [hv]
    have bad : (1 ≤ r.2[i] → r.2[i] ∈ r.2.take i) → rootB r = false := by
      intro hb
      cases hr : rootB r with
      | false => rfl
      | true =>
        obtain ⟨_, _, g3, g4⟩ := rootB_iff.1 hr
        have := hb (g3 _ (List.getElem_mem hlt))
        obtain ⟨j, hj, e⟩ := List.mem_take_iff_getElem.1 this
        exact (nodup_iff_lt.1 g4 i hlt j (by omega) e).elim
    refine gb_by (dt (by omega)) (gb_by rfl (brV_by' (fun h => ?_) (fun h => ?_)))
    · have hge : ¬ r.2[i] < 1 := by simpa using h
      refine gb_by (by rw [mb, keysOk_mi int_leaf]; rfl) (brV_by (fun h => ?_) (fun h => ?_))
      · have hmem : r.2[i] ∈ r.2.take i := of_decide_eq_true h
        rw [bad fun _ => hmem]; exact Wk.refl _
      · have hmem : ¬ r.2[i] ∈ r.2.take i := of_decide_eq_false h
        have e : mapPut (AVal.int .i64 r.2[i]) (AVal.bool true) (mb m) = mb (putI r.2[i] true m) := mapPut_mi AVal.bool _ true m
        rw [push_set0, e]
        refine gb_by (by rw [mb, keysOk_mi int_leaf]; rfl) ?_
        refine hL (putI r.2[i] true m, i + 1) ⟨hlt, fun k => ?_, fun n hn' => ?_, ?_⟩ (by simp only []; omega)
        · rw [getI_putI, hm]
          by_cases hk : r.2[i] = k
          · rw [if_pos hk, if_pos ((mem_take_succ hlt).2 (.inr hk.symm))]
          · rw [if_neg hk]
            by_cases hkm : k ∈ r.2.take i
            · rw [if_pos hkm, if_pos ((mem_take_succ hlt).2 (.inl hkm))]
            · rw [if_neg hkm, if_neg (fun h => ((mem_take_succ hlt).1 h).elim hkm (fun e => hk e.symm))]
        · rw [List.take_succ_eq_append_getElem hlt] at hn'
          rcases List.mem_append.1 hn' with h3 | h3
          · exact hp n h3
          · simp at h3; subst h3; omega
        · rw [List.take_succ_eq_append_getElem hlt, List.nodup_append]
          exact ⟨hd, by simp, fun a ha b hb => by simp at hb; subst hb; rintro rfl; exact hmem ha⟩
    · have hlt1 : r.2[i] < 1 := by simpa using h
      rw [bad fun h3 => by omega]; exact Wk.refl _
  · have hge : ¬ i < r.2.length := by simpa using h
    rw [List.take_of_length_le (by omega)] at hp hd
    refine leaveTo (toCut (Eq.mpr (rootF_r r Sto.empty _ _) ?_))
    simp only [hold_eq, hn, hn1]
    rw [wrap_i64 (by omega) (by omega)]
    refine brV_by (fun h => ?_) (fun h => ?_)
    · have h : r.2.length = r.1.length + 1 := by simp at h; omega
      refine gb_by (by simp [lenOk_mk h1]) ?_
      have : rootB r = riseL r.1 := by
        rw [Bool.eq_iff_iff, rootB_iff]
        exact ⟨fun h => h.2.1, fun h' => ⟨h, h', hp, hd⟩⟩
      rw [this, map_strOf_strv]; exact Wk.refl _
    · have h : ¬ r.2.length = r.1.length + 1 := by simp at h; omega
      have : rootB r = false := by
        cases hr : rootB r with
        | false => rfl
        | true => exact (h (rootB_iff.1 hr).1).elim
      rw [this]; exact Wk.refl _

theorem root_ok : EntOk Try.prog rootE := by
  intro xs σ; simp only [rootE]; split
  · rename_i v
    intro hc
    obtain ⟨h1, h2, h3⟩ := rootG_spec hc
    simp only [hold_eq]
    exact pcall_of (.cons (wk_root h1) (.refl _)) (root_c _ h2 h3) (by simp only [noOutL, root_noOut, Bool.and_true]) (by simp only [noTokL, root_noTok, Bool.and_true]) rfl rfl
  · trivial

theorem rootR_c (r : Root) (h1 : r.1.length ≤ 140737488351232) (h2 : r.2.length ≤ 140737488351232) (hs : shortL r.1 = true) : ACall Try.prog 47 [rootV r] Sto.empty fun v _ => Wk v (.bool (rootB r)) := by
  refine rootR_i _ _ (.of [riseRE] rfl ⟨riseR_ok, trivial⟩) ?_
  have hn : (iv r.2).length = r.2.length := iv_length r.2
  have hn1 : (strv r.1).length = r.1.length := strv_length r.1
  simp only [hold_eq, hn1, map_strOf_strv, strv_is]
  rw [wrap_i64 (by omega) (by omega)]
  have start : r.2.length = r.1.length + 1 → riseL r.1 = true → loopV (fun s => St.norm [] [1, 3] [1] s) (vc Try.prog cRootR code_47_1_1_0_1_0_0) (blockK 0 (thenK (fun s => cutV (vc Try.prog cRootR code_47_1_1_1 (endK Try.prog Try.f47.results.toList fun v _ => Wk v (.bool (rootB r)))) (St.norm [] [] [] s)) (endK Try.prog Try.f47.results.toList fun v _ => Wk v (.bool (rootB r))))) (rootRL_S r 0) := by
    intro hlen hrise
    refine loopV_intro (α := Nat) (fun i => rootRL_S r i) (fun i => i ≤ r.2.length ∧ (∀ n ∈ r.2.take i, 1 ≤ n) ∧ ∀ j (hj : j < r.2.length), j < i → ∀ k (hk : k < j), r.2[k] ≠ r.2[j]) (fun i => r.2.length - i) ?_ 0 ⟨Nat.zero_le _, by simp, fun j _ h => by omega⟩
    rintro i ⟨hi, hp, hd⟩ L hL
    refine Eq.mpr (rootRL_r r i L _) ?_
    simp only [hold_eq]
    refine brV_by (fun h => ?_) (fun h => ?_)
    · have hlt : i < r.2.length := by simpa using h
      rw [elemAt_iv r.2 i hlt]
      have hg : AVal.intOf (List.getD [AVal.int .i64 r.2[i]] 0 AVal.undef) = r.2[i] := rfl
      rw [hg]
      refine gb_by (dt (by omega)) (gb_by rfl (brV_by (fun h => ?_) (fun h => ?_)))
      · have hlt1 : r.2[i] < 1 := by simpa using h
        have : rootB r = false := by
          cases hr : rootB r with
          | false => rfl
          | true => have := (rootB_iff.1 hr).2.2.1 _ (List.getElem_mem hlt); omega
        rw [this]; exact Wk.refl _
      · have hge1 : ¬ r.2[i] < 1 := by simpa using h
        refine loopV_intro (α := Nat) (fun k => rootRM_S r i k) (fun k => k ≤ i ∧ ∀ j (hj : j < k) (hj2 : j < r.2.length), r.2[j] ≠ r.2[i]) (fun k => i - k) ?_ 0 ⟨Nat.zero_le _, fun j h _ => by omega⟩
        rintro k ⟨hk, hne⟩ L2 hL2
        refine Eq.mpr (rootRM_r r i k L2 _) ?_
        simp only [hold_eq]
        refine brV_by (fun h => ?_) (fun h => ?_)
        · have hki : k < i := by simpa using h
          rw [i64_succ (show k < r.2.length by omega) h2, elemAt_iv r.2 k (by omega), elemAt_iv r.2 i hlt]
          refine gb_by (dt (by omega)) (gb_by rfl (gb_by (dt (by omega)) (gb_by rfl (brV_by (fun h => ?_) (fun h => ?_)))))
          · have e : r.2[k] = r.2[i] := by
              have h : (r.2[k] == r.2[i]) = true := h
              simpa using h
            have : rootB r = false := by
              cases hr : rootB r with
              | false => rfl
              | true => exact (nodup_iff_lt.1 (rootB_iff.1 hr).2.2.2 i hlt k hki e).elim
            rw [this]; exact Wk.refl _
          · have e : r.2[k] ≠ r.2[i] := by
              have h : (r.2[k] == r.2[i]) = false := h
              simpa using h
            refine hL2 (k + 1) ⟨hki, fun j hj hj2 => ?_⟩ (by omega)
            rcases Nat.lt_or_ge j k with h3 | h3
            · exact hne j h3 hj2
            · obtain rfl : j = k := by omega
              exact e
        · have hge : ¬ k < i := by simpa using h
          refine leaveK (inBlock (toCut ?_))
          refine Eq.mpr (rootRN_r r i _) ?_
          rw [i64_succ hlt h2]
          refine hL (i + 1) ⟨hlt, fun n hn' => ?_, fun j hj hji k' hk' => ?_⟩ (by omega)
          · rw [List.take_succ_eq_append_getElem hlt] at hn'
            rcases List.mem_append.1 hn' with h3 | h3
            · exact hp n h3
            · simp at h3; subst h3; omega
          · rcases Nat.lt_or_ge j i with h3 | h3
            · exact hd j hj h3 k' hk'
            · obtain rfl : j = i := by omega
              exact hne k' (by omega) (by omega)
    · have hge : ¬ i < r.2.length := by simpa using h
      rw [List.take_of_length_le (by omega)] at hp
      refine leaveTo (toCut (Eq.mpr (rootRF_r _) ?_))
      have : rootB r = true := rootB_iff.2 ⟨hlen, hrise, hp, nodup_iff_lt.2 fun j hj k hk => hd j hj (by omega) k hk⟩
      rw [this]; exact Wk.refl _
  refine brV_by (fun h => ?_) (fun h => ?_)
  · have hne : ¬ r.2.length = r.1.length + 1 := by rw [hn] at h; simp at h; omega
    have : rootB r = false := by
      cases hr : rootB r with
      | false => rfl
      | true => exact (hne (rootB_iff.1 hr).1).elim
    rw [this]; exact Wk.refl _
  · have hlen : r.2.length = r.1.length + 1 := by rw [hn] at h; simp at h; omega
    refine gb_by (by simp [lenOk_mk h1, hs]) (brV_by (fun h => ?_) (fun h => ?_))
    · have : rootB r = false := by
        cases hr : rootB r with
        | false => rfl
        | true => have := (rootB_iff.1 hr).2.1; rw [this] at h; cases h
      rw [this]; exact Wk.refl _
    · exact start hlen (by simpa using h)

theorem rootR_ok : EntOk Try.prog rootRE := by
  intro xs σ; simp only [rootRE]; split
  · rename_i v
    intro hc
    obtain ⟨⟨h1, h2, h3⟩, h4⟩ := rootH_spec hc
    simp only [hold_eq]
    exact pcall_of (.cons (wk_root h1) (.refl _)) (rootR_c _ h2 h3 h4) (by simp only [noOutL, root_noOut, Bool.and_true]) (by simp only [noTokL, root_noTok, Bool.and_true]) rfl rfl
  · trivial

theorem leaf_ok : EntOk Try.prog leafE := by
  intro xs σ; simp only [leafE]; split
  · rename_i v
    intro hc
    obtain ⟨h1, h2⟩ := lfG_spec hc
    simp only [hold_eq]
    refine pcall_of (.cons (wk_lf h1) (.refl _)) (leaf_i (lfOf v) _ (.of [riseE] rfl ⟨rise_ok, trivial⟩) ?_) (by simp only [noOutL, lf_noOut, Bool.and_true]) (by simp only [noTokL, lf_noTok, Bool.and_true]) rfl rfl
    simp only [hold_eq, strv_length, strv_is, map_strOf_strv]
    refine brV_by (fun hg => ?_) (fun hg => ?_)
    · refine brV_by (fun hg2 => gb_by (by simp [lenOk_mk h2]) ?_) (fun hg2 => ?_)
      · have : lfB (lfOf v) = riseL (lfOf v).2.1 := by
          rw [Bool.eq_iff_iff, lfB_iff]
          exact ⟨fun h => h.2.2, fun h => ⟨by simpa using hg, by simp at hg2; omega, h⟩⟩
        rw [this]; exact Wk.refl _
      · have : lfB (lfOf v) = false := by
          cases hr : lfB (lfOf v) with
          | false => rfl
          | true => have := (lfB_iff.1 hr).2.1; simp at hg2; omega
        rw [this]; exact Wk.refl _
    · have : lfB (lfOf v) = false := by
        cases hr : lfB (lfOf v) with
        | false => rfl
        | true => have := (lfB_iff.1 hr).1; rw [this] at hg; cases hg
      rw [this]; exact Wk.refl _
  · trivial
theorem leafR_ok : EntOk Try.prog leafRE := by
  intro xs σ; simp only [leafRE]; split
  · rename_i v
    intro hc
    obtain ⟨⟨h1, h2⟩, h3⟩ := lfH_spec hc
    simp only [hold_eq]
    refine pcall_of (.cons (wk_lf h1) (.refl _)) (leafR_i (lfOf v) _ (.of [riseRE] rfl ⟨riseR_ok, trivial⟩) ?_) (by simp only [noOutL, lf_noOut, Bool.and_true]) (by simp only [noTokL, lf_noTok, Bool.and_true]) rfl rfl
    simp only [hold_eq, strv_length, strv_is, map_strOf_strv]
    refine brV_by (fun hg => ?_) (fun hg => ?_)
    · refine brV_by (fun hg2 => gb_by (by simp [lenOk_mk h2, h3]) ?_) (fun hg2 => ?_)
      · have : lfB (lfOf v) = riseL (lfOf v).2.1 := by
          rw [Bool.eq_iff_iff, lfB_iff]
          exact ⟨fun h => h.2.2, fun h => ⟨by simpa using hg, by simp at hg2; omega, h⟩⟩
        rw [this]; exact Wk.refl _
      · have : lfB (lfOf v) = false := by
          cases hr : lfB (lfOf v) with
          | false => rfl
          | true => have := (lfB_iff.1 hr).2.1; simp at hg2; omega
        rw [this]; exact Wk.refl _
    · have : lfB (lfOf v) = false := by
        cases hr : lfB (lfOf v) with
        | false => rfl
        | true => have := (lfB_iff.1 hr).1; rw [this] at hg; cases hg
      rw [this]; exact Wk.refl _
  · trivial

theorem at_ok : EntOk Try.prog atE := by
  intro xs σ; simp only [atE]; split
  · rename_i v s
    intro hc
    simp only [Bool.and_eq_true, hold_eq] at hc
    obtain ⟨hc, hr⟩ := hc
    obtain ⟨h1, h2, h3⟩ := rootG_spec hc
    refine pcall_of (.cons (wk_root h1) (.refl _)) (at_i (rootOf v) s _ (.of [bsE] rfl ⟨bs_ok, trivial⟩) ?_) (by simp only [noOutL, root_noOut, AVal.noOut, Bool.and_true]) (by simp only [noTokL, root_noTok, AVal.noTok, Bool.and_true]) rfl rfl
    simp only [hold_eq, strv_length, strv_is, map_strOf_strv]
    intro y hy b hb
    refine gb_by (by simp [lenOk_mk h2, hr]) ?_
    have ha := atN_pos hr s
    have hle := atN_le (rootOf v).1 s
    subst hy; subst hb
    refine brV_by (fun h => ?_) (fun h => ?_)
    · rw [h] at ha
      simp at ha
      rw [wrap_i64 (by omega) (by omega), ha]
      exact Wk.refl _
    · rw [h] at ha
      simp at ha
      rw [ha]
      exact Wk.refl _
  · trivial

theorem atR_c (r : Root) (s : Txt) (h1 : r.1.length ≤ 140737488351232) (hs : shortL r.1 = true) : ACall Try.prog 51 [rootV r, .str s] Sto.empty fun v _ => Wk v (.int .i64 (atN r.1 s : Int)) := by
  refine atR_i _ _ _ (.of [ordE] rfl ⟨ord_ok, trivial⟩) ?_
  have hn1 : (strv r.1).length = r.1.length := strv_length r.1
  refine loopV_intro (α := Nat) (fun i => atRL_S r s (atN (r.1.take i) s) i) (fun i => i ≤ r.1.length) (fun i => r.1.length - i) ?_ 0 (Nat.zero_le _)
  rintro i hi L hL
  refine Eq.mpr (atRL_r r s _ i L _) ?_
  simp only [hold_eq]
  refine brV_by (fun h => ?_) (fun h => ?_)
  · have hlt : i < r.1.length := by simpa using h
    have hle := atN_le (r.1.take i) s
    rw [List.length_take] at hle
    rw [i64_succ hlt h1, elemAt_strv r.1 i hlt]
    have hw : IntKind.i64.wrap ((atN (r.1.take i) s : Int) + 1) = ((atN (r.1.take i) s + 1 : Nat) : Int) := by rw [wrap_i64 (by omega) (by omega)]; rfl
    rw [hw]
    have hstep : atN (r.1.take (i + 1)) s = atN (r.1.take i) s + (if tlt s r.1[i] then 0 else 1) := by
      rw [List.take_succ_eq_append_getElem hlt]
      unfold atN
      rw [List.filter_append, List.length_append]
      cases ht : tlt s r.1[i] <;> simp [ht]
    refine gb_by (dt (by omega)) (gb_by rfl (gb_by (dt (short_get hs hlt)) (brV_by (fun h => ?_) (fun h => ?_))))
    · have h : tlt s r.1[i] = false := ordT_le'.1 (of_decide_eq_true h)
      have := hL (i + 1) hlt (by omega)
      rw [hstep, h] at this
      exact this
    · have h : tlt s r.1[i] = true := by
        have : ¬ tlt s r.1[i] = false := fun e => of_decide_eq_false h (ordT_le'.2 e)
        simpa using this
      have := hL (i + 1) hlt (by omega)
      rw [hstep, h] at this
      exact this
  · have hge : ¬ i < r.1.length := by simpa using h
    rw [List.take_of_length_le (by omega)]
    exact leaveTo (toCut (Eq.mpr (atRF_r _ _) (Wk.refl _)))

theorem atR_ok : EntOk Try.prog atRE := by
  intro xs σ; simp only [atRE]; split
  · rename_i v s
    intro hc
    obtain ⟨⟨h1, h2, h3⟩, h4⟩ := rootH_spec hc
    exact pcall_of (.cons (wk_root h1) (.refl _)) (atR_c _ s h2 h4) (by simp only [noOutL, root_noOut, AVal.noOut, Bool.and_true]) (by simp only [noTokL, root_noTok, AVal.noTok, Bool.and_true]) rfl rfl
  · trivial

theorem find_ok : EntOk Try.prog findE := by
  intro xs σ; simp only [findE]; split
  · rename_i v s
    intro hc
    obtain ⟨h1, h2, h3⟩ := rootG_spec hc
    refine pcall_of (.cons (wk_root h1) (.refl _)) (find_i (rootOf v) s _ (.of [rootE, atE] rfl ⟨root_ok, at_ok, trivial⟩) ?_) (by simp only [noOutL, root_noOut, AVal.noOut, Bool.and_true]) (by simp only [noTokL, root_noTok, AVal.noTok, Bool.and_true]) rfl rfl
    generalize hr : rootOf v = r at h2 h3
    simp only [hold_eq, map_strOf_strv, map_intOf_iv, iv_length, fold_root]
    refine gb_by (rootG_mk h2 h3) (brV_by (fun h => ?_) (fun h => ?_))
    · have h : rootB r = false := by simpa using h
      simp only [findN, h]; exact Wk.refl _
    · have h : rootB r = true := by simpa using h
      intro y hy
      obtain ⟨g1, g2, g3, g4⟩ := rootB_iff.1 h
      have hle := atN_le r.1 s
      have hlt : y < r.2.length := by omega
      rw [elemAt_iv r.2 y hlt]
      refine gb_by (by rw [rootG_mk h2 h3, g2]; rfl) (gb_by (dt (by omega)) (gb_by rfl ?_))
      have : findN r s = r.2[y] := by
        simp only [findN, h, if_true, ← hy]
        simp [hlt]
      rw [this]; exact Wk.refl _
  · trivial
theorem findR_ok : EntOk Try.prog findRE := by
  intro xs σ; simp only [findRE]; split
  · rename_i v s
    intro hc
    obtain ⟨⟨h1, h2, h3⟩, h4⟩ := rootH_spec hc
    refine pcall_of (.cons (wk_root h1) (.refl _)) (findR_i (rootOf v) s _ (.of [rootRE, atRE] rfl ⟨rootR_ok, atR_ok, trivial⟩) ?_) (by simp only [noOutL, root_noOut, AVal.noOut, Bool.and_true]) (by simp only [noTokL, root_noTok, AVal.noTok, Bool.and_true]) rfl rfl
    generalize hr : rootOf v = r at h2 h3 h4
    simp only [hold_eq, map_strOf_strv, map_intOf_iv, iv_length, fold_root]
    refine gb_by (rootH_mk h2 h3 h4) (brV_by (fun h => ?_) (fun h => ?_))
    · have h : rootB r = false := by simpa using h
      simp only [findN, h]; exact Wk.refl _
    · have h : rootB r = true := by simpa using h
      intro y hy
      obtain ⟨g1, g2, g3, g4⟩ := rootB_iff.1 h
      have hle := atN_le r.1 s
      have hlt : y < r.2.length := by omega
      rw [elemAt_iv r.2 y hlt]
      refine gb_by (rootH_mk h2 h3 h4) (gb_by (dt (by omega)) (gb_by rfl ?_))
      have : findN r s = r.2[y] := by
        simp only [findN, h, if_true, ← hy]
        simp [hlt]
      rw [this]; exact Wk.refl _
  · trivial
end Go.Proofs.Ytlfnmhfmikomkaa
end

section
set_option maxRecDepth 100000
set_option maxHeartbeats 0
set_option linter.unusedVariables false
namespace Go.Proofs.Ytlfnmhfmikomkaa
open Go.AL Go.Proofs
def isOvS (g : FuncId) : Bool := Nat.beq g 66
def isOvI (g : FuncId) : Bool := Nat.beq g 69
noncomputable def cClone : Cfg := { keep := [0, 2, 4], cut := [], out := [7], wr := [7] }
noncomputable def cCloneI : Cfg := { keep := [0, 2, 4], cut := [], out := [7], wr := [7] }
noncomputable def cIns : Cfg := { keep := [0, 1, 2, 6, 7, 8, 9, 16, 22, 31, 68], cut := [], out := [25, 40], ext := isOvS }
noncomputable def cInsI : Cfg := { keep := [0, 1, 2, 6, 7, 8, 9, 16, 22, 31, 68], cut := [], out := [25, 40], ext := isOvI }
noncomputable def cDel : Cfg := { keep := [0, 1, 2, 6, 7, 16], cut := [] }
noncomputable def cDelI : Cfg := { keep := [0, 1, 2, 6, 7, 16], cut := [] }
noncomputable def cCloneS : Cfg := { keep := [0, 2, 4], cut := [] }
noncomputable def cCloneIS : Cfg := { keep := [0, 2, 4], cut := [] }
noncomputable def code_36_ : Code := (Try.f36.body).getD .skip
noncomputable def code_39_ : Code := (Try.f39.body).getD .skip
noncomputable def code_40_ : Code := (Try.f40.body).getD .skip
noncomputable def code_42_ : Code := (Try.f42.body).getD .skip
noncomputable def code_45_ : Code := (Try.f45.body).getD .skip
noncomputable def code_46_ : Code := (Try.f46.body).getD .skip
theorem clone_r (σ : Sto) (l : List Txt) (Q : AVal → Sto → Prop) : vc Try.prog cClone code_39_ (endK Try.prog Try.f39.results.toList Q) (St.start Try.f39.ntmps [.slice (strv l) 1 .ro] (σ)) =
  (∀ (b : Bool), (b = true → List.isEmpty (strv l) = true) → (false = true → b = true) → brV (b == true) true (Q (AVal.slice [] 0 Tag.nil) σ) (brV (hold (decide (List.length (strv l) = 0))) true (Q (AVal.slice [] 1 Tag.full) σ) (gb (hold (decide ((0 + List.length (strv l)) * 16 ≤ 140737488355328 ∧ 0 + List.length (strv l) ≤ 9223372036854775807))) (∀ (k : Nat), 0 + List.length (strv l) + k ≤ 9223372036854775807 → gb (decide (AObj.noLoc (AObj.cells (flat (strv l) ++ List.replicate (k * 1) AVal.undef)) = true ∧ 7 < 8)) (Q (AVal.arr (Oid.out (Sto.nobj σ)) 0 (0 + List.length (strv l)) (0 + List.length (strv l) + k)) (Sto.push σ (AObj.cells (flat (strv l) ++ List.replicate (k * 1) AVal.undef)))))))) := by kernel_rfl
theorem clone_i (σ : Sto) (l : List Txt) (Q : AVal → Sto → Prop) (ho : OrcOk Try.prog cClone) (h : ∀ (b : Bool), (b = true → List.isEmpty (strv l) = true) → (false = true → b = true) → brV (b == true) true (Q (AVal.slice [] 0 Tag.nil) σ) (brV (hold (decide (List.length (strv l) = 0))) true (Q (AVal.slice [] 1 Tag.full) σ) (gb (hold (decide ((0 + List.length (strv l)) * 16 ≤ 140737488355328 ∧ 0 + List.length (strv l) ≤ 9223372036854775807))) (∀ (k : Nat), 0 + List.length (strv l) + k ≤ 9223372036854775807 → gb (decide (AObj.noLoc (AObj.cells (flat (strv l) ++ List.replicate (k * 1) AVal.undef)) = true ∧ 7 < 8)) (Q (AVal.arr (Oid.out (Sto.nobj σ)) 0 (0 + List.length (strv l)) (0 + List.length (strv l) + k)) (Sto.push σ (AObj.cells (flat (strv l) ++ List.replicate (k * 1) AVal.undef)))))))) : ACall Try.prog 39 [.slice (strv l) 1 .ro] (σ) Q :=
  ACall.intro hmix Try.func39 (c := code_39_) (by kernel_rfl) cClone ho (Nat.le_of_ble_eq_true (by kernel_rfl)) (by rw [clone_r]; exact h)
theorem cloneI_r (σ : Sto) (l : List Int) (Q : AVal → Sto → Prop) : vc Try.prog cCloneI code_42_ (endK Try.prog Try.f42.results.toList Q) (St.start Try.f42.ntmps [.slice (iv l) 1 .ro] (σ)) =
  (∀ (b : Bool), (b = true → List.isEmpty (iv l) = true) → (false = true → b = true) → brV (b == true) true (Q (AVal.slice [] 0 Tag.nil) σ) (brV (hold (decide (List.length (iv l) = 0))) true (Q (AVal.slice [] 1 Tag.full) σ) (gb (hold (decide ((0 + List.length (iv l)) * 8 ≤ 140737488355328 ∧ 0 + List.length (iv l) ≤ 9223372036854775807))) (∀ (k : Nat), 0 + List.length (iv l) + k ≤ 9223372036854775807 → gb (decide (AObj.noLoc (AObj.cells (flat (iv l) ++ List.replicate (k * 1) AVal.undef)) = true ∧ 7 < 8)) (Q (AVal.arr (Oid.out (Sto.nobj σ)) 0 (0 + List.length (iv l)) (0 + List.length (iv l) + k)) (Sto.push σ (AObj.cells (flat (iv l) ++ List.replicate (k * 1) AVal.undef)))))))) := by kernel_rfl
theorem cloneI_i (σ : Sto) (l : List Int) (Q : AVal → Sto → Prop) (ho : OrcOk Try.prog cCloneI) (h : ∀ (b : Bool), (b = true → List.isEmpty (iv l) = true) → (false = true → b = true) → brV (b == true) true (Q (AVal.slice [] 0 Tag.nil) σ) (brV (hold (decide (List.length (iv l) = 0))) true (Q (AVal.slice [] 1 Tag.full) σ) (gb (hold (decide ((0 + List.length (iv l)) * 8 ≤ 140737488355328 ∧ 0 + List.length (iv l) ≤ 9223372036854775807))) (∀ (k : Nat), 0 + List.length (iv l) + k ≤ 9223372036854775807 → gb (decide (AObj.noLoc (AObj.cells (flat (iv l) ++ List.replicate (k * 1) AVal.undef)) = true ∧ 7 < 8)) (Q (AVal.arr (Oid.out (Sto.nobj σ)) 0 (0 + List.length (iv l)) (0 + List.length (iv l) + k)) (Sto.push σ (AObj.cells (flat (iv l) ++ List.replicate (k * 1) AVal.undef)))))))) : ACall Try.prog 42 [.slice (iv l) 1 .ro] (σ) Q :=
  ACall.intro hmix Try.func42 (c := code_42_) (by kernel_rfl) cCloneI ho (Nat.le_of_ble_eq_true (by kernel_rfl)) (by rw [cloneI_r]; exact h)
theorem ins_r (cs : List AVal) (n c i : Nat) (x : Txt) (Q : AVal → Sto → Prop) : vc Try.prog cIns code_36_ (endK Try.prog Try.f36.results.toList Q) (St.start Try.f36.ntmps [.arr (.out 0) 0 n c, .int .i64 (i : Int), .slice [.str x] 1 .ro] (Sto.one (.cells cs))) =
  (gb (decide ((0 : Int) ≤ (↑i : Int) ∧ (↑i : Int) ≤ (↑n : Int) ∧ (↑n : Int) ≤ (↑c : Int))) (brV (hold false) true (Q (AVal.arr (Oid.out 0) 0 n c) (Sto.one (AObj.cells cs))) (brV (hold ((↑i : Int) == (↑n : Int))) true (gb (decide (0 + n * 1 ≤ List.length cs)) (brV (hold (decide (n + 1 ≤ c))) true (gb (decide (decide (true = true ∧ n + 1 ≤ c ∧ 0 + (n + 1) * 1 ≤ List.length cs ∧ (Oid.isOut (Oid.out 0) = true → noLocL (flat [AVal.str x]) = true)) = true ∧ true = true)) (Q (AVal.arr (Oid.out 0) 0 (n + 1) c) (Sto.set (Sto.one (AObj.cells cs)) 0 (AObj.cells (setRange cs (0 + n * 1) [AVal.str x]))))) (gb (hold (decide ((n + 1) * 16 ≤ 140737488355328 ∧ n + 1 ≤ 9223372036854775807))) (∀ (k : Nat), n + 1 + k ≤ 9223372036854775807 → gb (decide (AObj.noLoc (AObj.cells (List.take (n * 1) cs ++ [AVal.str x] ++ List.replicate (k * 1) AVal.undef)) = true ∧ 25 < 95)) (Q (AVal.arr (Oid.out 1) 0 (n + 1) (n + 1 + k)) (Sto.push (Sto.one (AObj.cells cs)) (AObj.cells (List.take (n * 1) cs ++ [AVal.str x] ++ List.replicate (k * 1) AVal.undef)))))))) (brV (hold (decide ((↑c : Int) < IntKind.wrap IntKind.i64 ((↑n : Int) + (↑(1 : Nat) : Int))))) true (gb (decide ((0 : Int) ≤ (0 : Int) ∧ (0 : Int) ≤ (↑i : Int) ∧ (↑i : Int) ≤ (↑c : Int))) (gb (hold (decide ((1 : Int) ≤ IntKind.wrap IntKind.i64 (IntKind.wrap IntKind.i64 ((↑n : Int) + (↑(1 : Nat) : Int)) - (↑i : Int)) ∧ IntKind.wrap IntKind.i64 (IntKind.wrap IntKind.i64 ((↑n : Int) + (↑(1 : Nat) : Int)) - (↑i : Int)) ≤ (1000000000000 : Int) ∧ c - 0 < Int.toNat (↑i : Int) - 0 + Int.toNat (IntKind.wrap IntKind.i64 (IntKind.wrap IntKind.i64 ((↑n : Int) + (↑(1 : Nat) : Int)) - (↑i : Int))))) && decide (0 + (Int.toNat (↑i : Int) - 0) * 1 ≤ List.length cs)) (gb (hold (decide ((Int.toNat (↑i : Int) - 0 + Int.toNat (IntKind.wrap IntKind.i64 (IntKind.wrap IntKind.i64 ((↑n : Int) + (↑(1 : Nat) : Int)) - (↑i : Int)))) * 16 ≤ 140737488355328 ∧ Int.toNat (↑i : Int) - 0 + Int.toNat (IntKind.wrap IntKind.i64 (IntKind.wrap IntKind.i64 ((↑n : Int) + (↑(1 : Nat) : Int)) - (↑i : Int))) ≤ 9223372036854775807))) (∀ (k : Nat), Int.toNat (↑i : Int) - 0 + Int.toNat (IntKind.wrap IntKind.i64 (IntKind.wrap IntKind.i64 ((↑n : Int) + (↑(1 : Nat) : Int)) - (↑i : Int))) + k ≤ 9223372036854775807 → gb (decide (AObj.noLoc (AObj.cells (List.take ((Int.toNat (↑i : Int) - 0) * 1) cs ++ flat (List.replicate (Int.toNat (IntKind.wrap IntKind.i64 (IntKind.wrap IntKind.i64 ((↑n : Int) + (↑(1 : Nat) : Int)) - (↑i : Int)))) (AVal.str [])) ++ List.replicate (k * 1) AVal.undef)) = true ∧ 40 < 95)) (gb (decide ((0 : Int) ≤ (↑i : Int) ∧ (↑i : Int) ≤ (↑(Int.toNat (↑i : Int) - 0 + Int.toNat (IntKind.wrap IntKind.i64 (IntKind.wrap IntKind.i64 ((↑n : Int) + (↑(1 : Nat) : Int)) - (↑i : Int)))) : Int) ∧ (↑(Int.toNat (↑i : Int) - 0 + Int.toNat (IntKind.wrap IntKind.i64 (IntKind.wrap IntKind.i64 ((↑n : Int) + (↑(1 : Nat) : Int)) - (↑i : Int)))) : Int) ≤ (↑(Int.toNat (↑i : Int) - 0 + Int.toNat (IntKind.wrap IntKind.i64 (IntKind.wrap IntKind.i64 ((↑n : Int) + (↑(1 : Nat) : Int)) - (↑i : Int))) + k) : Int))) (gb (decide (decide (true = true ∧ 0 + Int.toNat (↑i : Int) * 1 + Min.min 1 (Int.toNat (↑(Int.toNat (↑i : Int) - 0 + Int.toNat (IntKind.wrap IntKind.i64 (IntKind.wrap IntKind.i64 ((↑n : Int) + (↑(1 : Nat) : Int)) - (↑i : Int)))) : Int) - Int.toNat (↑i : Int)) * 1 ≤ List.length (List.take ((Int.toNat (↑i : Int) - 0) * 1) cs ++ flat (List.replicate (Int.toNat (IntKind.wrap IntKind.i64 (IntKind.wrap IntKind.i64 ((↑n : Int) + (↑(1 : Nat) : Int)) - (↑i : Int)))) (AVal.str [])) ++ List.replicate (k * 1) AVal.undef) ∧ (Oid.isOut (Oid.out 1) = true → noLocL (List.take (Min.min (List.length [AVal.str x]) (Int.toNat (↑(Int.toNat (↑i : Int) - 0 + Int.toNat (IntKind.wrap IntKind.i64 (IntKind.wrap IntKind.i64 ((↑n : Int) + (↑(1 : Nat) : Int)) - (↑i : Int)))) : Int) - Int.toNat (↑i : Int)) * Go.TypeInfo.size (Go.Tables.types (Go.Program.toTables Try.prog))[9]) (flat [AVal.str x])) = true)) = true ∧ true = true)) (gb (decide ((0 : Int) ≤ IntKind.wrap IntKind.i64 ((↑i : Int) + (↑(1 : Nat) : Int)) ∧ IntKind.wrap IntKind.i64 ((↑i : Int) + (↑(1 : Nat) : Int)) ≤ (↑(Int.toNat (↑i : Int) - 0 + Int.toNat (IntKind.wrap IntKind.i64 (IntKind.wrap IntKind.i64 ((↑n : Int) + (↑(1 : Nat) : Int)) - (↑i : Int)))) : Int) ∧ (↑(Int.toNat (↑i : Int) - 0 + Int.toNat (IntKind.wrap IntKind.i64 (IntKind.wrap IntKind.i64 ((↑n : Int) + (↑(1 : Nat) : Int)) - (↑i : Int)))) : Int) ≤ (↑(Int.toNat (↑i : Int) - 0 + Int.toNat (IntKind.wrap IntKind.i64 (IntKind.wrap IntKind.i64 ((↑n : Int) + (↑(1 : Nat) : Int)) - (↑i : Int))) + k) : Int))) (gb (decide ((0 : Int) ≤ (↑i : Int) ∧ (↑i : Int) ≤ (↑n : Int) ∧ (↑n : Int) ≤ (↑c : Int))) (gb (decide (decide (decide (0 + Int.toNat (↑i : Int) * 1 + (Int.toNat (↑n : Int) - Int.toNat (↑i : Int)) * 1 ≤ List.length cs) = true ∧ 0 + Int.toNat (IntKind.wrap IntKind.i64 ((↑i : Int) + (↑(1 : Nat) : Int))) * 1 + Min.min (Int.toNat (↑n : Int) - Int.toNat (↑i : Int)) (Int.toNat (↑(Int.toNat (↑i : Int) - 0 + Int.toNat (IntKind.wrap IntKind.i64 (IntKind.wrap IntKind.i64 ((↑n : Int) + (↑(1 : Nat) : Int)) - (↑i : Int)))) : Int) - Int.toNat (IntKind.wrap IntKind.i64 ((↑i : Int) + (↑(1 : Nat) : Int)))) * 1 ≤ List.length (setRange (List.take ((Int.toNat (↑i : Int) - 0) * 1) cs ++ flat (List.replicate (Int.toNat (IntKind.wrap IntKind.i64 (IntKind.wrap IntKind.i64 ((↑n : Int) + (↑(1 : Nat) : Int)) - (↑i : Int)))) (AVal.str [])) ++ List.replicate (k * 1) AVal.undef) (0 + Int.toNat (↑i : Int) * 1) (List.take (Min.min 1 (Int.toNat (↑(Int.toNat (↑i : Int) - 0 + Int.toNat (IntKind.wrap IntKind.i64 (IntKind.wrap IntKind.i64 ((↑n : Int) + (↑(1 : Nat) : Int)) - (↑i : Int)))) : Int) - Int.toNat (↑i : Int)) * 1) [AVal.str x])) ∧ (Oid.isOut (Oid.out 1) = true → noLocL (List.take (Min.min (Int.toNat (↑n : Int) - Int.toNat (↑i : Int)) (Int.toNat (↑(Int.toNat (↑i : Int) - 0 + Int.toNat (IntKind.wrap IntKind.i64 (IntKind.wrap IntKind.i64 ((↑n : Int) + (↑(1 : Nat) : Int)) - (↑i : Int)))) : Int) - Int.toNat (IntKind.wrap IntKind.i64 ((↑i : Int) + (↑(1 : Nat) : Int)))) * Go.TypeInfo.size (Go.Tables.types (Go.Program.toTables Try.prog))[9]) (List.take ((Int.toNat (↑n : Int) - Int.toNat (↑i : Int)) * Go.TypeInfo.size (Go.Tables.types (Go.Program.toTables Try.prog))[9]) (List.drop (0 + Int.toNat (↑i : Int) * 1) cs))) = true)) = true ∧ true = true)) (Q (AVal.arr (Oid.out 1) 0 (Int.toNat (↑i : Int) - 0 + Int.toNat (IntKind.wrap IntKind.i64 (IntKind.wrap IntKind.i64 ((↑n : Int) + (↑(1 : Nat) : Int)) - (↑i : Int)))) (Int.toNat (↑i : Int) - 0 + Int.toNat (IntKind.wrap IntKind.i64 (IntKind.wrap IntKind.i64 ((↑n : Int) + (↑(1 : Nat) : Int)) - (↑i : Int))) + k)) (Sto.set (Sto.set (Sto.push (Sto.one (AObj.cells cs)) (AObj.cells (List.take ((Int.toNat (↑i : Int) - 0) * 1) cs ++ flat (List.replicate (Int.toNat (IntKind.wrap IntKind.i64 (IntKind.wrap IntKind.i64 ((↑n : Int) + (↑(1 : Nat) : Int)) - (↑i : Int)))) (AVal.str [])) ++ List.replicate (k * 1) AVal.undef))) 1 (AObj.cells (setRange (List.take ((Int.toNat (↑i : Int) - 0) * 1) cs ++ flat (List.replicate (Int.toNat (IntKind.wrap IntKind.i64 (IntKind.wrap IntKind.i64 ((↑n : Int) + (↑(1 : Nat) : Int)) - (↑i : Int)))) (AVal.str [])) ++ List.replicate (k * 1) AVal.undef) (0 + Int.toNat (↑i : Int) * 1) (List.take (Min.min 1 (Int.toNat (↑(Int.toNat (↑i : Int) - 0 + Int.toNat (IntKind.wrap IntKind.i64 (IntKind.wrap IntKind.i64 ((↑n : Int) + (↑(1 : Nat) : Int)) - (↑i : Int)))) : Int) - Int.toNat (↑i : Int)) * 1) [AVal.str x])))) 1 (AObj.cells (setRange (setRange (List.take ((Int.toNat (↑i : Int) - 0) * 1) cs ++ flat (List.replicate (Int.toNat (IntKind.wrap IntKind.i64 (IntKind.wrap IntKind.i64 ((↑n : Int) + (↑(1 : Nat) : Int)) - (↑i : Int)))) (AVal.str [])) ++ List.replicate (k * 1) AVal.undef) (0 + Int.toNat (↑i : Int) * 1) (List.take (Min.min 1 (Int.toNat (↑(Int.toNat (↑i : Int) - 0 + Int.toNat (IntKind.wrap IntKind.i64 (IntKind.wrap IntKind.i64 ((↑n : Int) + (↑(1 : Nat) : Int)) - (↑i : Int)))) : Int) - Int.toNat (↑i : Int)) * 1) [AVal.str x])) (0 + Int.toNat (IntKind.wrap IntKind.i64 ((↑i : Int) + (↑(1 : Nat) : Int))) * 1) (List.take (Min.min (Int.toNat (↑n : Int) - Int.toNat (↑i : Int)) (Int.toNat (↑(Int.toNat (↑i : Int) - 0 + Int.toNat (IntKind.wrap IntKind.i64 (IntKind.wrap IntKind.i64 ((↑n : Int) + (↑(1 : Nat) : Int)) - (↑i : Int)))) : Int) - Int.toNat (IntKind.wrap IntKind.i64 ((↑i : Int) + (↑(1 : Nat) : Int)))) * 1) (List.take ((Int.toNat (↑n : Int) - Int.toNat (↑i : Int)) * 1) (List.drop (0 + Int.toNat (↑i : Int) * 1) cs)))))))))))))))) (gb (decide ((0 : Int) ≤ (0 : Int) ∧ (0 : Int) ≤ IntKind.wrap IntKind.i64 ((↑n : Int) + (↑(1 : Nat) : Int)) ∧ IntKind.wrap IntKind.i64 ((↑n : Int) + (↑(1 : Nat) : Int)) ≤ (↑c : Int))) (gb (decide ((0 : Int) ≤ IntKind.wrap IntKind.i64 ((↑i : Int) + (↑(1 : Nat) : Int)) ∧ IntKind.wrap IntKind.i64 ((↑i : Int) + (↑(1 : Nat) : Int)) ≤ (↑(Int.toNat (IntKind.wrap IntKind.i64 ((↑n : Int) + (↑(1 : Nat) : Int))) - 0) : Int) ∧ (↑(Int.toNat (IntKind.wrap IntKind.i64 ((↑n : Int) + (↑(1 : Nat) : Int))) - 0) : Int) ≤ (↑(c - 0) : Int))) (gb (decide (0 < 1 ∧ 0 + Int.toNat (IntKind.wrap IntKind.i64 ((↑i : Int) + (↑(1 : Nat) : Int))) * 1 + (Int.toNat (↑(Int.toNat (IntKind.wrap IntKind.i64 ((↑n : Int) + (↑(1 : Nat) : Int))) - 0) : Int) - Int.toNat (IntKind.wrap IntKind.i64 ((↑i : Int) + (↑(1 : Nat) : Int)))) ≤ List.length cs)) (gb (decide ((0 : Int) ≤ IntKind.wrap IntKind.i64 ((↑i : Int) + (↑(1 : Nat) : Int)) ∧ IntKind.wrap IntKind.i64 ((↑i : Int) + (↑(1 : Nat) : Int)) ≤ (↑(Int.toNat (IntKind.wrap IntKind.i64 ((↑n : Int) + (↑(1 : Nat) : Int))) - 0) : Int) ∧ (↑(Int.toNat (IntKind.wrap IntKind.i64 ((↑n : Int) + (↑(1 : Nat) : Int))) - 0) : Int) ≤ (↑(c - 0) : Int))) (gb (decide ((0 : Int) ≤ (↑i : Int) ∧ (↑i : Int) ≤ (↑(Int.toNat (IntKind.wrap IntKind.i64 ((↑n : Int) + (↑(1 : Nat) : Int))) - 0) : Int) ∧ (↑(Int.toNat (IntKind.wrap IntKind.i64 ((↑n : Int) + (↑(1 : Nat) : Int))) - 0) : Int) ≤ (↑(c - 0) : Int))) (gb (decide (decide (decide (0 + Int.toNat (↑i : Int) * 1 + (Int.toNat (↑(Int.toNat (IntKind.wrap IntKind.i64 ((↑n : Int) + (↑(1 : Nat) : Int))) - 0) : Int) - Int.toNat (↑i : Int)) * 1 ≤ List.length cs) = true ∧ 0 + Int.toNat (IntKind.wrap IntKind.i64 ((↑i : Int) + (↑(1 : Nat) : Int))) * 1 + Min.min (Int.toNat (↑(Int.toNat (IntKind.wrap IntKind.i64 ((↑n : Int) + (↑(1 : Nat) : Int))) - 0) : Int) - Int.toNat (↑i : Int)) (Int.toNat (↑(Int.toNat (IntKind.wrap IntKind.i64 ((↑n : Int) + (↑(1 : Nat) : Int))) - 0) : Int) - Int.toNat (IntKind.wrap IntKind.i64 ((↑i : Int) + (↑(1 : Nat) : Int)))) * 1 ≤ List.length cs ∧ (Oid.isOut (Oid.out 0) = true → noLocL (List.take (Min.min (Int.toNat (↑(Int.toNat (IntKind.wrap IntKind.i64 ((↑n : Int) + (↑(1 : Nat) : Int))) - 0) : Int) - Int.toNat (↑i : Int)) (Int.toNat (↑(Int.toNat (IntKind.wrap IntKind.i64 ((↑n : Int) + (↑(1 : Nat) : Int))) - 0) : Int) - Int.toNat (IntKind.wrap IntKind.i64 ((↑i : Int) + (↑(1 : Nat) : Int)))) * Go.TypeInfo.size (Go.Tables.types (Go.Program.toTables Try.prog))[9]) (List.take ((Int.toNat (↑(Int.toNat (IntKind.wrap IntKind.i64 ((↑n : Int) + (↑(1 : Nat) : Int))) - 0) : Int) - Int.toNat (↑i : Int)) * Go.TypeInfo.size (Go.Tables.types (Go.Program.toTables Try.prog))[9]) (List.drop (0 + Int.toNat (↑i : Int) * 1) cs))) = true)) = true ∧ true = true)) (gb (decide ((0 : Int) ≤ (↑i : Int) ∧ (↑i : Int) ≤ (↑(Int.toNat (IntKind.wrap IntKind.i64 ((↑n : Int) + (↑(1 : Nat) : Int))) - 0) : Int) ∧ (↑(Int.toNat (IntKind.wrap IntKind.i64 ((↑n : Int) + (↑(1 : Nat) : Int))) - 0) : Int) ≤ (↑(c - 0) : Int))) (gb (decide (decide (true = true ∧ 0 + Int.toNat (↑i : Int) * 1 + Min.min 1 (Int.toNat (↑(Int.toNat (IntKind.wrap IntKind.i64 ((↑n : Int) + (↑(1 : Nat) : Int))) - 0) : Int) - Int.toNat (↑i : Int)) * 1 ≤ List.length (setRange cs (0 + Int.toNat (IntKind.wrap IntKind.i64 ((↑i : Int) + (↑(1 : Nat) : Int))) * 1) (List.take (Min.min (Int.toNat (↑(Int.toNat (IntKind.wrap IntKind.i64 ((↑n : Int) + (↑(1 : Nat) : Int))) - 0) : Int) - Int.toNat (↑i : Int)) (Int.toNat (↑(Int.toNat (IntKind.wrap IntKind.i64 ((↑n : Int) + (↑(1 : Nat) : Int))) - 0) : Int) - Int.toNat (IntKind.wrap IntKind.i64 ((↑i : Int) + (↑(1 : Nat) : Int)))) * 1) (List.take ((Int.toNat (↑(Int.toNat (IntKind.wrap IntKind.i64 ((↑n : Int) + (↑(1 : Nat) : Int))) - 0) : Int) - Int.toNat (↑i : Int)) * 1) (List.drop (0 + Int.toNat (↑i : Int) * 1) cs)))) ∧ (Oid.isOut (Oid.out 0) = true → noLocL (List.take (Min.min (List.length [AVal.str x]) (Int.toNat (↑(Int.toNat (IntKind.wrap IntKind.i64 ((↑n : Int) + (↑(1 : Nat) : Int))) - 0) : Int) - Int.toNat (↑i : Int)) * Go.TypeInfo.size (Go.Tables.types (Go.Program.toTables Try.prog))[9]) (flat [AVal.str x])) = true)) = true ∧ true = true)) (Q (AVal.arr (Oid.out 0) 0 (Int.toNat (IntKind.wrap IntKind.i64 ((↑n : Int) + (↑(1 : Nat) : Int))) - 0) (c - 0)) (Sto.set (Sto.set (Sto.one (AObj.cells cs)) 0 (AObj.cells (setRange cs (0 + Int.toNat (IntKind.wrap IntKind.i64 ((↑i : Int) + (↑(1 : Nat) : Int))) * 1) (List.take (Min.min (Int.toNat (↑(Int.toNat (IntKind.wrap IntKind.i64 ((↑n : Int) + (↑(1 : Nat) : Int))) - 0) : Int) - Int.toNat (↑i : Int)) (Int.toNat (↑(Int.toNat (IntKind.wrap IntKind.i64 ((↑n : Int) + (↑(1 : Nat) : Int))) - 0) : Int) - Int.toNat (IntKind.wrap IntKind.i64 ((↑i : Int) + (↑(1 : Nat) : Int)))) * 1) (List.take ((Int.toNat (↑(Int.toNat (IntKind.wrap IntKind.i64 ((↑n : Int) + (↑(1 : Nat) : Int))) - 0) : Int) - Int.toNat (↑i : Int)) * 1) (List.drop (0 + Int.toNat (↑i : Int) * 1) cs)))))) 0 (AObj.cells (setRange (setRange cs (0 + Int.toNat (IntKind.wrap IntKind.i64 ((↑i : Int) + (↑(1 : Nat) : Int))) * 1) (List.take (Min.min (Int.toNat (↑(Int.toNat (IntKind.wrap IntKind.i64 ((↑n : Int) + (↑(1 : Nat) : Int))) - 0) : Int) - Int.toNat (↑i : Int)) (Int.toNat (↑(Int.toNat (IntKind.wrap IntKind.i64 ((↑n : Int) + (↑(1 : Nat) : Int))) - 0) : Int) - Int.toNat (IntKind.wrap IntKind.i64 ((↑i : Int) + (↑(1 : Nat) : Int)))) * 1) (List.take ((Int.toNat (↑(Int.toNat (IntKind.wrap IntKind.i64 ((↑n : Int) + (↑(1 : Nat) : Int))) - 0) : Int) - Int.toNat (↑i : Int)) * 1) (List.drop (0 + Int.toNat (↑i : Int) * 1) cs)))) (0 + Int.toNat (↑i : Int) * 1) (List.take (Min.min 1 (Int.toNat (↑(Int.toNat (IntKind.wrap IntKind.i64 ((↑n : Int) + (↑(1 : Nat) : Int))) - 0) : Int) - Int.toNat (↑i : Int)) * 1) [AVal.str x]))))))))))))))))) := by kernel_rfl
theorem ins_i (cs : List AVal) (n c i : Nat) (x : Txt) (Q : AVal → Sto → Prop) (ho : OrcOk Try.prog cIns) (h : gb (decide ((0 : Int) ≤ (↑i : Int) ∧ (↑i : Int) ≤ (↑n : Int) ∧ (↑n : Int) ≤ (↑c : Int))) (brV (hold false) true (Q (AVal.arr (Oid.out 0) 0 n c) (Sto.one (AObj.cells cs))) (brV (hold ((↑i : Int) == (↑n : Int))) true (gb (decide (0 + n * 1 ≤ List.length cs)) (brV (hold (decide (n + 1 ≤ c))) true (gb (decide (decide (true = true ∧ n + 1 ≤ c ∧ 0 + (n + 1) * 1 ≤ List.length cs ∧ (Oid.isOut (Oid.out 0) = true → noLocL (flat [AVal.str x]) = true)) = true ∧ true = true)) (Q (AVal.arr (Oid.out 0) 0 (n + 1) c) (Sto.set (Sto.one (AObj.cells cs)) 0 (AObj.cells (setRange cs (0 + n * 1) [AVal.str x]))))) (gb (hold (decide ((n + 1) * 16 ≤ 140737488355328 ∧ n + 1 ≤ 9223372036854775807))) (∀ (k : Nat), n + 1 + k ≤ 9223372036854775807 → gb (decide (AObj.noLoc (AObj.cells (List.take (n * 1) cs ++ [AVal.str x] ++ List.replicate (k * 1) AVal.undef)) = true ∧ 25 < 95)) (Q (AVal.arr (Oid.out 1) 0 (n + 1) (n + 1 + k)) (Sto.push (Sto.one (AObj.cells cs)) (AObj.cells (List.take (n * 1) cs ++ [AVal.str x] ++ List.replicate (k * 1) AVal.undef)))))))) (brV (hold (decide ((↑c : Int) < IntKind.wrap IntKind.i64 ((↑n : Int) + (↑(1 : Nat) : Int))))) true (gb (decide ((0 : Int) ≤ (0 : Int) ∧ (0 : Int) ≤ (↑i : Int) ∧ (↑i : Int) ≤ (↑c : Int))) (gb (hold (decide ((1 : Int) ≤ IntKind.wrap IntKind.i64 (IntKind.wrap IntKind.i64 ((↑n : Int) + (↑(1 : Nat) : Int)) - (↑i : Int)) ∧ IntKind.wrap IntKind.i64 (IntKind.wrap IntKind.i64 ((↑n : Int) + (↑(1 : Nat) : Int)) - (↑i : Int)) ≤ (1000000000000 : Int) ∧ c - 0 < Int.toNat (↑i : Int) - 0 + Int.toNat (IntKind.wrap IntKind.i64 (IntKind.wrap IntKind.i64 ((↑n : Int) + (↑(1 : Nat) : Int)) - (↑i : Int))))) && decide (0 + (Int.toNat (↑i : Int) - 0) * 1 ≤ List.length cs)) (gb (hold (decide ((Int.toNat (↑i : Int) - 0 + Int.toNat (IntKind.wrap IntKind.i64 (IntKind.wrap IntKind.i64 ((↑n : Int) + (↑(1 : Nat) : Int)) - (↑i : Int)))) * 16 ≤ 140737488355328 ∧ Int.toNat (↑i : Int) - 0 + Int.toNat (IntKind.wrap IntKind.i64 (IntKind.wrap IntKind.i64 ((↑n : Int) + (↑(1 : Nat) : Int)) - (↑i : Int))) ≤ 9223372036854775807))) (∀ (k : Nat), Int.toNat (↑i : Int) - 0 + Int.toNat (IntKind.wrap IntKind.i64 (IntKind.wrap IntKind.i64 ((↑n : Int) + (↑(1 : Nat) : Int)) - (↑i : Int))) + k ≤ 9223372036854775807 → gb (decide (AObj.noLoc (AObj.cells (List.take ((Int.toNat (↑i : Int) - 0) * 1) cs ++ flat (List.replicate (Int.toNat (IntKind.wrap IntKind.i64 (IntKind.wrap IntKind.i64 ((↑n : Int) + (↑(1 : Nat) : Int)) - (↑i : Int)))) (AVal.str [])) ++ List.replicate (k * 1) AVal.undef)) = true ∧ 40 < 95)) (gb (decide ((0 : Int) ≤ (↑i : Int) ∧ (↑i : Int) ≤ (↑(Int.toNat (↑i : Int) - 0 + Int.toNat (IntKind.wrap IntKind.i64 (IntKind.wrap IntKind.i64 ((↑n : Int) + (↑(1 : Nat) : Int)) - (↑i : Int)))) : Int) ∧ (↑(Int.toNat (↑i : Int) - 0 + Int.toNat (IntKind.wrap IntKind.i64 (IntKind.wrap IntKind.i64 ((↑n : Int) + (↑(1 : Nat) : Int)) - (↑i : Int)))) : Int) ≤ (↑(Int.toNat (↑i : Int) - 0 + Int.toNat (IntKind.wrap IntKind.i64 (IntKind.wrap IntKind.i64 ((↑n : Int) + (↑(1 : Nat) : Int)) - (↑i : Int))) + k) : Int))) (gb (decide (decide (true = true ∧ 0 + Int.toNat (↑i : Int) * 1 + Min.min 1 (Int.toNat (↑(Int.toNat (↑i : Int) - 0 + Int.toNat (IntKind.wrap IntKind.i64 (IntKind.wrap IntKind.i64 ((↑n : Int) + (↑(1 : Nat) : Int)) - (↑i : Int)))) : Int) - Int.toNat (↑i : Int)) * 1 ≤ List.length (List.take ((Int.toNat (↑i : Int) - 0) * 1) cs ++ flat (List.replicate (Int.toNat (IntKind.wrap IntKind.i64 (IntKind.wrap IntKind.i64 ((↑n : Int) + (↑(1 : Nat) : Int)) - (↑i : Int)))) (AVal.str [])) ++ List.replicate (k * 1) AVal.undef) ∧ (Oid.isOut (Oid.out 1) = true → noLocL (List.take (Min.min (List.length [AVal.str x]) (Int.toNat (↑(Int.toNat (↑i : Int) - 0 + Int.toNat (IntKind.wrap IntKind.i64 (IntKind.wrap IntKind.i64 ((↑n : Int) + (↑(1 : Nat) : Int)) - (↑i : Int)))) : Int) - Int.toNat (↑i : Int)) * Go.TypeInfo.size (Go.Tables.types (Go.Program.toTables Try.prog))[9]) (flat [AVal.str x])) = true)) = true ∧ true = true)) (gb (decide ((0 : Int) ≤ IntKind.wrap IntKind.i64 ((↑i : Int) + (↑(1 : Nat) : Int)) ∧ IntKind.wrap IntKind.i64 ((↑i : Int) + (↑(1 : Nat) : Int)) ≤ (↑(Int.toNat (↑i : Int) - 0 + Int.toNat (IntKind.wrap IntKind.i64 (IntKind.wrap IntKind.i64 ((↑n : Int) + (↑(1 : Nat) : Int)) - (↑i : Int)))) : Int) ∧ (↑(Int.toNat (↑i : Int) - 0 + Int.toNat (IntKind.wrap IntKind.i64 (IntKind.wrap IntKind.i64 ((↑n : Int) + (↑(1 : Nat) : Int)) - (↑i : Int)))) : Int) ≤ (↑(Int.toNat (↑i : Int) - 0 + Int.toNat (IntKind.wrap IntKind.i64 (IntKind.wrap IntKind.i64 ((↑n : Int) + (↑(1 : Nat) : Int)) - (↑i : Int))) + k) : Int))) (gb (decide ((0 : Int) ≤ (↑i : Int) ∧ (↑i : Int) ≤ (↑n : Int) ∧ (↑n : Int) ≤ (↑c : Int))) (gb (decide (decide (decide (0 + Int.toNat (↑i : Int) * 1 + (Int.toNat (↑n : Int) - Int.toNat (↑i : Int)) * 1 ≤ List.length cs) = true ∧ 0 + Int.toNat (IntKind.wrap IntKind.i64 ((↑i : Int) + (↑(1 : Nat) : Int))) * 1 + Min.min (Int.toNat (↑n : Int) - Int.toNat (↑i : Int)) (Int.toNat (↑(Int.toNat (↑i : Int) - 0 + Int.toNat (IntKind.wrap IntKind.i64 (IntKind.wrap IntKind.i64 ((↑n : Int) + (↑(1 : Nat) : Int)) - (↑i : Int)))) : Int) - Int.toNat (IntKind.wrap IntKind.i64 ((↑i : Int) + (↑(1 : Nat) : Int)))) * 1 ≤ List.length (setRange (List.take ((Int.toNat (↑i : Int) - 0) * 1) cs ++ flat (List.replicate (Int.toNat (IntKind.wrap IntKind.i64 (IntKind.wrap IntKind.i64 ((↑n : Int) + (↑(1 : Nat) : Int)) - (↑i : Int)))) (AVal.str [])) ++ List.replicate (k * 1) AVal.undef) (0 + Int.toNat (↑i : Int) * 1) (List.take (Min.min 1 (Int.toNat (↑(Int.toNat (↑i : Int) - 0 + Int.toNat (IntKind.wrap IntKind.i64 (IntKind.wrap IntKind.i64 ((↑n : Int) + (↑(1 : Nat) : Int)) - (↑i : Int)))) : Int) - Int.toNat (↑i : Int)) * 1) [AVal.str x])) ∧ (Oid.isOut (Oid.out 1) = true → noLocL (List.take (Min.min (Int.toNat (↑n : Int) - Int.toNat (↑i : Int)) (Int.toNat (↑(Int.toNat (↑i : Int) - 0 + Int.toNat (IntKind.wrap IntKind.i64 (IntKind.wrap IntKind.i64 ((↑n : Int) + (↑(1 : Nat) : Int)) - (↑i : Int)))) : Int) - Int.toNat (IntKind.wrap IntKind.i64 ((↑i : Int) + (↑(1 : Nat) : Int)))) * Go.TypeInfo.size (Go.Tables.types (Go.Program.toTables Try.prog))[9]) (List.take ((Int.toNat (↑n : Int) - Int.toNat (↑i : Int)) * Go.TypeInfo.size (Go.Tables.types (Go.Program.toTables Try.prog))[9]) (List.drop (0 + Int.toNat (↑i : Int) * 1) cs))) = true)) = true ∧ true = true)) (Q (AVal.arr (Oid.out 1) 0 (Int.toNat (↑i : Int) - 0 + Int.toNat (IntKind.wrap IntKind.i64 (IntKind.wrap IntKind.i64 ((↑n : Int) + (↑(1 : Nat) : Int)) - (↑i : Int)))) (Int.toNat (↑i : Int) - 0 + Int.toNat (IntKind.wrap IntKind.i64 (IntKind.wrap IntKind.i64 ((↑n : Int) + (↑(1 : Nat) : Int)) - (↑i : Int))) + k)) (Sto.set (Sto.set (Sto.push (Sto.one (AObj.cells cs)) (AObj.cells (List.take ((Int.toNat (↑i : Int) - 0) * 1) cs ++ flat (List.replicate (Int.toNat (IntKind.wrap IntKind.i64 (IntKind.wrap IntKind.i64 ((↑n : Int) + (↑(1 : Nat) : Int)) - (↑i : Int)))) (AVal.str [])) ++ List.replicate (k * 1) AVal.undef))) 1 (AObj.cells (setRange (List.take ((Int.toNat (↑i : Int) - 0) * 1) cs ++ flat (List.replicate (Int.toNat (IntKind.wrap IntKind.i64 (IntKind.wrap IntKind.i64 ((↑n : Int) + (↑(1 : Nat) : Int)) - (↑i : Int)))) (AVal.str [])) ++ List.replicate (k * 1) AVal.undef) (0 + Int.toNat (↑i : Int) * 1) (List.take (Min.min 1 (Int.toNat (↑(Int.toNat (↑i : Int) - 0 + Int.toNat (IntKind.wrap IntKind.i64 (IntKind.wrap IntKind.i64 ((↑n : Int) + (↑(1 : Nat) : Int)) - (↑i : Int)))) : Int) - Int.toNat (↑i : Int)) * 1) [AVal.str x])))) 1 (AObj.cells (setRange (setRange (List.take ((Int.toNat (↑i : Int) - 0) * 1) cs ++ flat (List.replicate (Int.toNat (IntKind.wrap IntKind.i64 (IntKind.wrap IntKind.i64 ((↑n : Int) + (↑(1 : Nat) : Int)) - (↑i : Int)))) (AVal.str [])) ++ List.replicate (k * 1) AVal.undef) (0 + Int.toNat (↑i : Int) * 1) (List.take (Min.min 1 (Int.toNat (↑(Int.toNat (↑i : Int) - 0 + Int.toNat (IntKind.wrap IntKind.i64 (IntKind.wrap IntKind.i64 ((↑n : Int) + (↑(1 : Nat) : Int)) - (↑i : Int)))) : Int) - Int.toNat (↑i : Int)) * 1) [AVal.str x])) (0 + Int.toNat (IntKind.wrap IntKind.i64 ((↑i : Int) + (↑(1 : Nat) : Int))) * 1) (List.take (Min.min (Int.toNat (↑n : Int) - Int.toNat (↑i : Int)) (Int.toNat (↑(Int.toNat (↑i : Int) - 0 + Int.toNat (IntKind.wrap IntKind.i64 (IntKind.wrap IntKind.i64 ((↑n : Int) + (↑(1 : Nat) : Int)) - (↑i : Int)))) : Int) - Int.toNat (IntKind.wrap IntKind.i64 ((↑i : Int) + (↑(1 : Nat) : Int)))) * 1) (List.take ((Int.toNat (↑n : Int) - Int.toNat (↑i : Int)) * 1) (List.drop (0 + Int.toNat (↑i : Int) * 1) cs)))))))))))))))) (gb (decide ((0 : Int) ≤ (0 : Int) ∧ (0 : Int) ≤ IntKind.wrap IntKind.i64 ((↑n : Int) + (↑(1 : Nat) : Int)) ∧ IntKind.wrap IntKind.i64 ((↑n : Int) + (↑(1 : Nat) : Int)) ≤ (↑c : Int))) (gb (decide ((0 : Int) ≤ IntKind.wrap IntKind.i64 ((↑i : Int) + (↑(1 : Nat) : Int)) ∧ IntKind.wrap IntKind.i64 ((↑i : Int) + (↑(1 : Nat) : Int)) ≤ (↑(Int.toNat (IntKind.wrap IntKind.i64 ((↑n : Int) + (↑(1 : Nat) : Int))) - 0) : Int) ∧ (↑(Int.toNat (IntKind.wrap IntKind.i64 ((↑n : Int) + (↑(1 : Nat) : Int))) - 0) : Int) ≤ (↑(c - 0) : Int))) (gb (decide (0 < 1 ∧ 0 + Int.toNat (IntKind.wrap IntKind.i64 ((↑i : Int) + (↑(1 : Nat) : Int))) * 1 + (Int.toNat (↑(Int.toNat (IntKind.wrap IntKind.i64 ((↑n : Int) + (↑(1 : Nat) : Int))) - 0) : Int) - Int.toNat (IntKind.wrap IntKind.i64 ((↑i : Int) + (↑(1 : Nat) : Int)))) ≤ List.length cs)) (gb (decide ((0 : Int) ≤ IntKind.wrap IntKind.i64 ((↑i : Int) + (↑(1 : Nat) : Int)) ∧ IntKind.wrap IntKind.i64 ((↑i : Int) + (↑(1 : Nat) : Int)) ≤ (↑(Int.toNat (IntKind.wrap IntKind.i64 ((↑n : Int) + (↑(1 : Nat) : Int))) - 0) : Int) ∧ (↑(Int.toNat (IntKind.wrap IntKind.i64 ((↑n : Int) + (↑(1 : Nat) : Int))) - 0) : Int) ≤ (↑(c - 0) : Int))) (gb (decide ((0 : Int) ≤ (↑i : Int) ∧ (↑i : Int) ≤ (↑(Int.toNat (IntKind.wrap IntKind.i64 ((↑n : Int) + (↑(1 : Nat) : Int))) - 0) : Int) ∧ (↑(Int.toNat (IntKind.wrap IntKind.i64 ((↑n : Int) + (↑(1 : Nat) : Int))) - 0) : Int) ≤ (↑(c - 0) : Int))) (gb (decide (decide (decide (0 + Int.toNat (↑i : Int) * 1 + (Int.toNat (↑(Int.toNat (IntKind.wrap IntKind.i64 ((↑n : Int) + (↑(1 : Nat) : Int))) - 0) : Int) - Int.toNat (↑i : Int)) * 1 ≤ List.length cs) = true ∧ 0 + Int.toNat (IntKind.wrap IntKind.i64 ((↑i : Int) + (↑(1 : Nat) : Int))) * 1 + Min.min (Int.toNat (↑(Int.toNat (IntKind.wrap IntKind.i64 ((↑n : Int) + (↑(1 : Nat) : Int))) - 0) : Int) - Int.toNat (↑i : Int)) (Int.toNat (↑(Int.toNat (IntKind.wrap IntKind.i64 ((↑n : Int) + (↑(1 : Nat) : Int))) - 0) : Int) - Int.toNat (IntKind.wrap IntKind.i64 ((↑i : Int) + (↑(1 : Nat) : Int)))) * 1 ≤ List.length cs ∧ (Oid.isOut (Oid.out 0) = true → noLocL (List.take (Min.min (Int.toNat (↑(Int.toNat (IntKind.wrap IntKind.i64 ((↑n : Int) + (↑(1 : Nat) : Int))) - 0) : Int) - Int.toNat (↑i : Int)) (Int.toNat (↑(Int.toNat (IntKind.wrap IntKind.i64 ((↑n : Int) + (↑(1 : Nat) : Int))) - 0) : Int) - Int.toNat (IntKind.wrap IntKind.i64 ((↑i : Int) + (↑(1 : Nat) : Int)))) * Go.TypeInfo.size (Go.Tables.types (Go.Program.toTables Try.prog))[9]) (List.take ((Int.toNat (↑(Int.toNat (IntKind.wrap IntKind.i64 ((↑n : Int) + (↑(1 : Nat) : Int))) - 0) : Int) - Int.toNat (↑i : Int)) * Go.TypeInfo.size (Go.Tables.types (Go.Program.toTables Try.prog))[9]) (List.drop (0 + Int.toNat (↑i : Int) * 1) cs))) = true)) = true ∧ true = true)) (gb (decide ((0 : Int) ≤ (↑i : Int) ∧ (↑i : Int) ≤ (↑(Int.toNat (IntKind.wrap IntKind.i64 ((↑n : Int) + (↑(1 : Nat) : Int))) - 0) : Int) ∧ (↑(Int.toNat (IntKind.wrap IntKind.i64 ((↑n : Int) + (↑(1 : Nat) : Int))) - 0) : Int) ≤ (↑(c - 0) : Int))) (gb (decide (decide (true = true ∧ 0 + Int.toNat (↑i : Int) * 1 + Min.min 1 (Int.toNat (↑(Int.toNat (IntKind.wrap IntKind.i64 ((↑n : Int) + (↑(1 : Nat) : Int))) - 0) : Int) - Int.toNat (↑i : Int)) * 1 ≤ List.length (setRange cs (0 + Int.toNat (IntKind.wrap IntKind.i64 ((↑i : Int) + (↑(1 : Nat) : Int))) * 1) (List.take (Min.min (Int.toNat (↑(Int.toNat (IntKind.wrap IntKind.i64 ((↑n : Int) + (↑(1 : Nat) : Int))) - 0) : Int) - Int.toNat (↑i : Int)) (Int.toNat (↑(Int.toNat (IntKind.wrap IntKind.i64 ((↑n : Int) + (↑(1 : Nat) : Int))) - 0) : Int) - Int.toNat (IntKind.wrap IntKind.i64 ((↑i : Int) + (↑(1 : Nat) : Int)))) * 1) (List.take ((Int.toNat (↑(Int.toNat (IntKind.wrap IntKind.i64 ((↑n : Int) + (↑(1 : Nat) : Int))) - 0) : Int) - Int.toNat (↑i : Int)) * 1) (List.drop (0 + Int.toNat (↑i : Int) * 1) cs)))) ∧ (Oid.isOut (Oid.out 0) = true → noLocL (List.take (Min.min (List.length [AVal.str x]) (Int.toNat (↑(Int.toNat (IntKind.wrap IntKind.i64 ((↑n : Int) + (↑(1 : Nat) : Int))) - 0) : Int) - Int.toNat (↑i : Int)) * Go.TypeInfo.size (Go.Tables.types (Go.Program.toTables Try.prog))[9]) (flat [AVal.str x])) = true)) = true ∧ true = true)) (Q (AVal.arr (Oid.out 0) 0 (Int.toNat (IntKind.wrap IntKind.i64 ((↑n : Int) + (↑(1 : Nat) : Int))) - 0) (c - 0)) (Sto.set (Sto.set (Sto.one (AObj.cells cs)) 0 (AObj.cells (setRange cs (0 + Int.toNat (IntKind.wrap IntKind.i64 ((↑i : Int) + (↑(1 : Nat) : Int))) * 1) (List.take (Min.min (Int.toNat (↑(Int.toNat (IntKind.wrap IntKind.i64 ((↑n : Int) + (↑(1 : Nat) : Int))) - 0) : Int) - Int.toNat (↑i : Int)) (Int.toNat (↑(Int.toNat (IntKind.wrap IntKind.i64 ((↑n : Int) + (↑(1 : Nat) : Int))) - 0) : Int) - Int.toNat (IntKind.wrap IntKind.i64 ((↑i : Int) + (↑(1 : Nat) : Int)))) * 1) (List.take ((Int.toNat (↑(Int.toNat (IntKind.wrap IntKind.i64 ((↑n : Int) + (↑(1 : Nat) : Int))) - 0) : Int) - Int.toNat (↑i : Int)) * 1) (List.drop (0 + Int.toNat (↑i : Int) * 1) cs)))))) 0 (AObj.cells (setRange (setRange cs (0 + Int.toNat (IntKind.wrap IntKind.i64 ((↑i : Int) + (↑(1 : Nat) : Int))) * 1) (List.take (Min.min (Int.toNat (↑(Int.toNat (IntKind.wrap IntKind.i64 ((↑n : Int) + (↑(1 : Nat) : Int))) - 0) : Int) - Int.toNat (↑i : Int)) (Int.toNat (↑(Int.toNat (IntKind.wrap IntKind.i64 ((↑n : Int) + (↑(1 : Nat) : Int))) - 0) : Int) - Int.toNat (IntKind.wrap IntKind.i64 ((↑i : Int) + (↑(1 : Nat) : Int)))) * 1) (List.take ((Int.toNat (↑(Int.toNat (IntKind.wrap IntKind.i64 ((↑n : Int) + (↑(1 : Nat) : Int))) - 0) : Int) - Int.toNat (↑i : Int)) * 1) (List.drop (0 + Int.toNat (↑i : Int) * 1) cs)))) (0 + Int.toNat (↑i : Int) * 1) (List.take (Min.min 1 (Int.toNat (↑(Int.toNat (IntKind.wrap IntKind.i64 ((↑n : Int) + (↑(1 : Nat) : Int))) - 0) : Int) - Int.toNat (↑i : Int)) * 1) [AVal.str x]))))))))))))))))) : ACall Try.prog 36 [.arr (.out 0) 0 n c, .int .i64 (i : Int), .slice [.str x] 1 .ro] (Sto.one (.cells cs)) Q :=
  ACall.intro hmix Try.func36 (c := code_36_) (by kernel_rfl) cIns ho (Nat.le_of_ble_eq_true (by kernel_rfl)) (by rw [ins_r]; exact h)
theorem insH_r (i : Nat) (x : Txt) (Q : AVal → Sto → Prop) : vc Try.prog cIns code_36_ (endK Try.prog Try.f36.results.toList Q) (St.start Try.f36.ntmps [.slice [] 1 .full, .int .i64 (i : Int), .slice [.str x] 1 .ro] (Sto.empty)) =
  (gb (decide ((0 : Int) ≤ (↑i : Int) ∧ (↑i : Int) ≤ (0 : Int) ∧ (0 : Int) ≤ (0 : Int))) (brV (hold false) true (Q (AVal.slice [] 1 Tag.full) Sto.empty) (brV (hold ((↑i : Int) == (0 : Int))) true (Q (AVal.slice [AVal.str x] 1 (Tag.own 0)) (Sto.pushOwn Sto.empty (0 + 1))) False))) := by kernel_rfl
theorem insH_i (i : Nat) (x : Txt) (Q : AVal → Sto → Prop) (ho : OrcOk Try.prog cIns) (h : gb (decide ((0 : Int) ≤ (↑i : Int) ∧ (↑i : Int) ≤ (0 : Int) ∧ (0 : Int) ≤ (0 : Int))) (brV (hold false) true (Q (AVal.slice [] 1 Tag.full) Sto.empty) (brV (hold ((↑i : Int) == (0 : Int))) true (Q (AVal.slice [AVal.str x] 1 (Tag.own 0)) (Sto.pushOwn Sto.empty (0 + 1))) False))) : ACall Try.prog 36 [.slice [] 1 .full, .int .i64 (i : Int), .slice [.str x] 1 .ro] (Sto.empty) Q :=
  ACall.intro hmix Try.func36 (c := code_36_) (by kernel_rfl) cIns ho (Nat.le_of_ble_eq_true (by kernel_rfl)) (by rw [insH_r]; exact h)
theorem insI_r (cs : List AVal) (n c i : Nat) (x : Int) (Q : AVal → Sto → Prop) : vc Try.prog cInsI code_40_ (endK Try.prog Try.f40.results.toList Q) (St.start Try.f40.ntmps [.arr (.out 0) 0 n c, .int .i64 (i : Int), .slice [.int .i64 x] 1 .ro] (Sto.one (.cells cs))) =
  (gb (decide ((0 : Int) ≤ (↑i : Int) ∧ (↑i : Int) ≤ (↑n : Int) ∧ (↑n : Int) ≤ (↑c : Int))) (brV (hold false) true (Q (AVal.arr (Oid.out 0) 0 n c) (Sto.one (AObj.cells cs))) (brV (hold ((↑i : Int) == (↑n : Int))) true (gb (decide (0 + n * 1 ≤ List.length cs)) (brV (hold (decide (n + 1 ≤ c))) true (gb (decide (decide (true = true ∧ n + 1 ≤ c ∧ 0 + (n + 1) * 1 ≤ List.length cs ∧ (Oid.isOut (Oid.out 0) = true → noLocL (flat [AVal.int IntKind.i64 x]) = true)) = true ∧ true = true)) (Q (AVal.arr (Oid.out 0) 0 (n + 1) c) (Sto.set (Sto.one (AObj.cells cs)) 0 (AObj.cells (setRange cs (0 + n * 1) [AVal.int IntKind.i64 x]))))) (gb (hold (decide ((n + 1) * 8 ≤ 140737488355328 ∧ n + 1 ≤ 9223372036854775807))) (∀ (k : Nat), n + 1 + k ≤ 9223372036854775807 → gb (decide (AObj.noLoc (AObj.cells (List.take (n * 1) cs ++ [AVal.int IntKind.i64 x] ++ List.replicate (k * 1) AVal.undef)) = true ∧ 25 < 95)) (Q (AVal.arr (Oid.out 1) 0 (n + 1) (n + 1 + k)) (Sto.push (Sto.one (AObj.cells cs)) (AObj.cells (List.take (n * 1) cs ++ [AVal.int IntKind.i64 x] ++ List.replicate (k * 1) AVal.undef)))))))) (brV (hold (decide ((↑c : Int) < IntKind.wrap IntKind.i64 ((↑n : Int) + (↑(1 : Nat) : Int))))) true (gb (decide ((0 : Int) ≤ (0 : Int) ∧ (0 : Int) ≤ (↑i : Int) ∧ (↑i : Int) ≤ (↑c : Int))) (gb (hold (decide ((1 : Int) ≤ IntKind.wrap IntKind.i64 (IntKind.wrap IntKind.i64 ((↑n : Int) + (↑(1 : Nat) : Int)) - (↑i : Int)) ∧ IntKind.wrap IntKind.i64 (IntKind.wrap IntKind.i64 ((↑n : Int) + (↑(1 : Nat) : Int)) - (↑i : Int)) ≤ (1000000000000 : Int) ∧ c - 0 < Int.toNat (↑i : Int) - 0 + Int.toNat (IntKind.wrap IntKind.i64 (IntKind.wrap IntKind.i64 ((↑n : Int) + (↑(1 : Nat) : Int)) - (↑i : Int))))) && decide (0 + (Int.toNat (↑i : Int) - 0) * 1 ≤ List.length cs)) (gb (hold (decide ((Int.toNat (↑i : Int) - 0 + Int.toNat (IntKind.wrap IntKind.i64 (IntKind.wrap IntKind.i64 ((↑n : Int) + (↑(1 : Nat) : Int)) - (↑i : Int)))) * 8 ≤ 140737488355328 ∧ Int.toNat (↑i : Int) - 0 + Int.toNat (IntKind.wrap IntKind.i64 (IntKind.wrap IntKind.i64 ((↑n : Int) + (↑(1 : Nat) : Int)) - (↑i : Int))) ≤ 9223372036854775807))) (∀ (k : Nat), Int.toNat (↑i : Int) - 0 + Int.toNat (IntKind.wrap IntKind.i64 (IntKind.wrap IntKind.i64 ((↑n : Int) + (↑(1 : Nat) : Int)) - (↑i : Int))) + k ≤ 9223372036854775807 → gb (decide (AObj.noLoc (AObj.cells (List.take ((Int.toNat (↑i : Int) - 0) * 1) cs ++ flat (List.replicate (Int.toNat (IntKind.wrap IntKind.i64 (IntKind.wrap IntKind.i64 ((↑n : Int) + (↑(1 : Nat) : Int)) - (↑i : Int)))) (AVal.int IntKind.i64 (0 : Int))) ++ List.replicate (k * 1) AVal.undef)) = true ∧ 40 < 95)) (gb (decide ((0 : Int) ≤ (↑i : Int) ∧ (↑i : Int) ≤ (↑(Int.toNat (↑i : Int) - 0 + Int.toNat (IntKind.wrap IntKind.i64 (IntKind.wrap IntKind.i64 ((↑n : Int) + (↑(1 : Nat) : Int)) - (↑i : Int)))) : Int) ∧ (↑(Int.toNat (↑i : Int) - 0 + Int.toNat (IntKind.wrap IntKind.i64 (IntKind.wrap IntKind.i64 ((↑n : Int) + (↑(1 : Nat) : Int)) - (↑i : Int)))) : Int) ≤ (↑(Int.toNat (↑i : Int) - 0 + Int.toNat (IntKind.wrap IntKind.i64 (IntKind.wrap IntKind.i64 ((↑n : Int) + (↑(1 : Nat) : Int)) - (↑i : Int))) + k) : Int))) (gb (decide (decide (true = true ∧ 0 + Int.toNat (↑i : Int) * 1 + Min.min 1 (Int.toNat (↑(Int.toNat (↑i : Int) - 0 + Int.toNat (IntKind.wrap IntKind.i64 (IntKind.wrap IntKind.i64 ((↑n : Int) + (↑(1 : Nat) : Int)) - (↑i : Int)))) : Int) - Int.toNat (↑i : Int)) * 1 ≤ List.length (List.take ((Int.toNat (↑i : Int) - 0) * 1) cs ++ flat (List.replicate (Int.toNat (IntKind.wrap IntKind.i64 (IntKind.wrap IntKind.i64 ((↑n : Int) + (↑(1 : Nat) : Int)) - (↑i : Int)))) (AVal.int IntKind.i64 (0 : Int))) ++ List.replicate (k * 1) AVal.undef) ∧ (Oid.isOut (Oid.out 1) = true → noLocL (List.take (Min.min (List.length [AVal.int IntKind.i64 x]) (Int.toNat (↑(Int.toNat (↑i : Int) - 0 + Int.toNat (IntKind.wrap IntKind.i64 (IntKind.wrap IntKind.i64 ((↑n : Int) + (↑(1 : Nat) : Int)) - (↑i : Int)))) : Int) - Int.toNat (↑i : Int)) * Go.TypeInfo.size (Go.Tables.types (Go.Program.toTables Try.prog))[3]) (flat [AVal.int IntKind.i64 x])) = true)) = true ∧ true = true)) (gb (decide ((0 : Int) ≤ IntKind.wrap IntKind.i64 ((↑i : Int) + (↑(1 : Nat) : Int)) ∧ IntKind.wrap IntKind.i64 ((↑i : Int) + (↑(1 : Nat) : Int)) ≤ (↑(Int.toNat (↑i : Int) - 0 + Int.toNat (IntKind.wrap IntKind.i64 (IntKind.wrap IntKind.i64 ((↑n : Int) + (↑(1 : Nat) : Int)) - (↑i : Int)))) : Int) ∧ (↑(Int.toNat (↑i : Int) - 0 + Int.toNat (IntKind.wrap IntKind.i64 (IntKind.wrap IntKind.i64 ((↑n : Int) + (↑(1 : Nat) : Int)) - (↑i : Int)))) : Int) ≤ (↑(Int.toNat (↑i : Int) - 0 + Int.toNat (IntKind.wrap IntKind.i64 (IntKind.wrap IntKind.i64 ((↑n : Int) + (↑(1 : Nat) : Int)) - (↑i : Int))) + k) : Int))) (gb (decide ((0 : Int) ≤ (↑i : Int) ∧ (↑i : Int) ≤ (↑n : Int) ∧ (↑n : Int) ≤ (↑c : Int))) (gb (decide (decide (decide (0 + Int.toNat (↑i : Int) * 1 + (Int.toNat (↑n : Int) - Int.toNat (↑i : Int)) * 1 ≤ List.length cs) = true ∧ 0 + Int.toNat (IntKind.wrap IntKind.i64 ((↑i : Int) + (↑(1 : Nat) : Int))) * 1 + Min.min (Int.toNat (↑n : Int) - Int.toNat (↑i : Int)) (Int.toNat (↑(Int.toNat (↑i : Int) - 0 + Int.toNat (IntKind.wrap IntKind.i64 (IntKind.wrap IntKind.i64 ((↑n : Int) + (↑(1 : Nat) : Int)) - (↑i : Int)))) : Int) - Int.toNat (IntKind.wrap IntKind.i64 ((↑i : Int) + (↑(1 : Nat) : Int)))) * 1 ≤ List.length (setRange (List.take ((Int.toNat (↑i : Int) - 0) * 1) cs ++ flat (List.replicate (Int.toNat (IntKind.wrap IntKind.i64 (IntKind.wrap IntKind.i64 ((↑n : Int) + (↑(1 : Nat) : Int)) - (↑i : Int)))) (AVal.int IntKind.i64 (0 : Int))) ++ List.replicate (k * 1) AVal.undef) (0 + Int.toNat (↑i : Int) * 1) (List.take (Min.min 1 (Int.toNat (↑(Int.toNat (↑i : Int) - 0 + Int.toNat (IntKind.wrap IntKind.i64 (IntKind.wrap IntKind.i64 ((↑n : Int) + (↑(1 : Nat) : Int)) - (↑i : Int)))) : Int) - Int.toNat (↑i : Int)) * 1) [AVal.int IntKind.i64 x])) ∧ (Oid.isOut (Oid.out 1) = true → noLocL (List.take (Min.min (Int.toNat (↑n : Int) - Int.toNat (↑i : Int)) (Int.toNat (↑(Int.toNat (↑i : Int) - 0 + Int.toNat (IntKind.wrap IntKind.i64 (IntKind.wrap IntKind.i64 ((↑n : Int) + (↑(1 : Nat) : Int)) - (↑i : Int)))) : Int) - Int.toNat (IntKind.wrap IntKind.i64 ((↑i : Int) + (↑(1 : Nat) : Int)))) * Go.TypeInfo.size (Go.Tables.types (Go.Program.toTables Try.prog))[3]) (List.take ((Int.toNat (↑n : Int) - Int.toNat (↑i : Int)) * Go.TypeInfo.size (Go.Tables.types (Go.Program.toTables Try.prog))[3]) (List.drop (0 + Int.toNat (↑i : Int) * 1) cs))) = true)) = true ∧ true = true)) (Q (AVal.arr (Oid.out 1) 0 (Int.toNat (↑i : Int) - 0 + Int.toNat (IntKind.wrap IntKind.i64 (IntKind.wrap IntKind.i64 ((↑n : Int) + (↑(1 : Nat) : Int)) - (↑i : Int)))) (Int.toNat (↑i : Int) - 0 + Int.toNat (IntKind.wrap IntKind.i64 (IntKind.wrap IntKind.i64 ((↑n : Int) + (↑(1 : Nat) : Int)) - (↑i : Int))) + k)) (Sto.set (Sto.set (Sto.push (Sto.one (AObj.cells cs)) (AObj.cells (List.take ((Int.toNat (↑i : Int) - 0) * 1) cs ++ flat (List.replicate (Int.toNat (IntKind.wrap IntKind.i64 (IntKind.wrap IntKind.i64 ((↑n : Int) + (↑(1 : Nat) : Int)) - (↑i : Int)))) (AVal.int IntKind.i64 (0 : Int))) ++ List.replicate (k * 1) AVal.undef))) 1 (AObj.cells (setRange (List.take ((Int.toNat (↑i : Int) - 0) * 1) cs ++ flat (List.replicate (Int.toNat (IntKind.wrap IntKind.i64 (IntKind.wrap IntKind.i64 ((↑n : Int) + (↑(1 : Nat) : Int)) - (↑i : Int)))) (AVal.int IntKind.i64 (0 : Int))) ++ List.replicate (k * 1) AVal.undef) (0 + Int.toNat (↑i : Int) * 1) (List.take (Min.min 1 (Int.toNat (↑(Int.toNat (↑i : Int) - 0 + Int.toNat (IntKind.wrap IntKind.i64 (IntKind.wrap IntKind.i64 ((↑n : Int) + (↑(1 : Nat) : Int)) - (↑i : Int)))) : Int) - Int.toNat (↑i : Int)) * 1) [AVal.int IntKind.i64 x])))) 1 (AObj.cells (setRange (setRange (List.take ((Int.toNat (↑i : Int) - 0) * 1) cs ++ flat (List.replicate (Int.toNat (IntKind.wrap IntKind.i64 (IntKind.wrap IntKind.i64 ((↑n : Int) + (↑(1 : Nat) : Int)) - (↑i : Int)))) (AVal.int IntKind.i64 (0 : Int))) ++ List.replicate (k * 1) AVal.undef) (0 + Int.toNat (↑i : Int) * 1) (List.take (Min.min 1 (Int.toNat (↑(Int.toNat (↑i : Int) - 0 + Int.toNat (IntKind.wrap IntKind.i64 (IntKind.wrap IntKind.i64 ((↑n : Int) + (↑(1 : Nat) : Int)) - (↑i : Int)))) : Int) - Int.toNat (↑i : Int)) * 1) [AVal.int IntKind.i64 x])) (0 + Int.toNat (IntKind.wrap IntKind.i64 ((↑i : Int) + (↑(1 : Nat) : Int))) * 1) (List.take (Min.min (Int.toNat (↑n : Int) - Int.toNat (↑i : Int)) (Int.toNat (↑(Int.toNat (↑i : Int) - 0 + Int.toNat (IntKind.wrap IntKind.i64 (IntKind.wrap IntKind.i64 ((↑n : Int) + (↑(1 : Nat) : Int)) - (↑i : Int)))) : Int) - Int.toNat (IntKind.wrap IntKind.i64 ((↑i : Int) + (↑(1 : Nat) : Int)))) * 1) (List.take ((Int.toNat (↑n : Int) - Int.toNat (↑i : Int)) * 1) (List.drop (0 + Int.toNat (↑i : Int) * 1) cs)))))))))))))))) (gb (decide ((0 : Int) ≤ (0 : Int) ∧ (0 : Int) ≤ IntKind.wrap IntKind.i64 ((↑n : Int) + (↑(1 : Nat) : Int)) ∧ IntKind.wrap IntKind.i64 ((↑n : Int) + (↑(1 : Nat) : Int)) ≤ (↑c : Int))) (gb (decide ((0 : Int) ≤ IntKind.wrap IntKind.i64 ((↑i : Int) + (↑(1 : Nat) : Int)) ∧ IntKind.wrap IntKind.i64 ((↑i : Int) + (↑(1 : Nat) : Int)) ≤ (↑(Int.toNat (IntKind.wrap IntKind.i64 ((↑n : Int) + (↑(1 : Nat) : Int))) - 0) : Int) ∧ (↑(Int.toNat (IntKind.wrap IntKind.i64 ((↑n : Int) + (↑(1 : Nat) : Int))) - 0) : Int) ≤ (↑(c - 0) : Int))) (gb (decide (0 < 1 ∧ 0 + Int.toNat (IntKind.wrap IntKind.i64 ((↑i : Int) + (↑(1 : Nat) : Int))) * 1 + (Int.toNat (↑(Int.toNat (IntKind.wrap IntKind.i64 ((↑n : Int) + (↑(1 : Nat) : Int))) - 0) : Int) - Int.toNat (IntKind.wrap IntKind.i64 ((↑i : Int) + (↑(1 : Nat) : Int)))) ≤ List.length cs)) (gb (decide ((0 : Int) ≤ IntKind.wrap IntKind.i64 ((↑i : Int) + (↑(1 : Nat) : Int)) ∧ IntKind.wrap IntKind.i64 ((↑i : Int) + (↑(1 : Nat) : Int)) ≤ (↑(Int.toNat (IntKind.wrap IntKind.i64 ((↑n : Int) + (↑(1 : Nat) : Int))) - 0) : Int) ∧ (↑(Int.toNat (IntKind.wrap IntKind.i64 ((↑n : Int) + (↑(1 : Nat) : Int))) - 0) : Int) ≤ (↑(c - 0) : Int))) (gb (decide ((0 : Int) ≤ (↑i : Int) ∧ (↑i : Int) ≤ (↑(Int.toNat (IntKind.wrap IntKind.i64 ((↑n : Int) + (↑(1 : Nat) : Int))) - 0) : Int) ∧ (↑(Int.toNat (IntKind.wrap IntKind.i64 ((↑n : Int) + (↑(1 : Nat) : Int))) - 0) : Int) ≤ (↑(c - 0) : Int))) (gb (decide (decide (decide (0 + Int.toNat (↑i : Int) * 1 + (Int.toNat (↑(Int.toNat (IntKind.wrap IntKind.i64 ((↑n : Int) + (↑(1 : Nat) : Int))) - 0) : Int) - Int.toNat (↑i : Int)) * 1 ≤ List.length cs) = true ∧ 0 + Int.toNat (IntKind.wrap IntKind.i64 ((↑i : Int) + (↑(1 : Nat) : Int))) * 1 + Min.min (Int.toNat (↑(Int.toNat (IntKind.wrap IntKind.i64 ((↑n : Int) + (↑(1 : Nat) : Int))) - 0) : Int) - Int.toNat (↑i : Int)) (Int.toNat (↑(Int.toNat (IntKind.wrap IntKind.i64 ((↑n : Int) + (↑(1 : Nat) : Int))) - 0) : Int) - Int.toNat (IntKind.wrap IntKind.i64 ((↑i : Int) + (↑(1 : Nat) : Int)))) * 1 ≤ List.length cs ∧ (Oid.isOut (Oid.out 0) = true → noLocL (List.take (Min.min (Int.toNat (↑(Int.toNat (IntKind.wrap IntKind.i64 ((↑n : Int) + (↑(1 : Nat) : Int))) - 0) : Int) - Int.toNat (↑i : Int)) (Int.toNat (↑(Int.toNat (IntKind.wrap IntKind.i64 ((↑n : Int) + (↑(1 : Nat) : Int))) - 0) : Int) - Int.toNat (IntKind.wrap IntKind.i64 ((↑i : Int) + (↑(1 : Nat) : Int)))) * Go.TypeInfo.size (Go.Tables.types (Go.Program.toTables Try.prog))[3]) (List.take ((Int.toNat (↑(Int.toNat (IntKind.wrap IntKind.i64 ((↑n : Int) + (↑(1 : Nat) : Int))) - 0) : Int) - Int.toNat (↑i : Int)) * Go.TypeInfo.size (Go.Tables.types (Go.Program.toTables Try.prog))[3]) (List.drop (0 + Int.toNat (↑i : Int) * 1) cs))) = true)) = true ∧ true = true)) (gb (decide ((0 : Int) ≤ (↑i : Int) ∧ (↑i : Int) ≤ (↑(Int.toNat (IntKind.wrap IntKind.i64 ((↑n : Int) + (↑(1 : Nat) : Int))) - 0) : Int) ∧ (↑(Int.toNat (IntKind.wrap IntKind.i64 ((↑n : Int) + (↑(1 : Nat) : Int))) - 0) : Int) ≤ (↑(c - 0) : Int))) (gb (decide (decide (true = true ∧ 0 + Int.toNat (↑i : Int) * 1 + Min.min 1 (Int.toNat (↑(Int.toNat (IntKind.wrap IntKind.i64 ((↑n : Int) + (↑(1 : Nat) : Int))) - 0) : Int) - Int.toNat (↑i : Int)) * 1 ≤ List.length (setRange cs (0 + Int.toNat (IntKind.wrap IntKind.i64 ((↑i : Int) + (↑(1 : Nat) : Int))) * 1) (List.take (Min.min (Int.toNat (↑(Int.toNat (IntKind.wrap IntKind.i64 ((↑n : Int) + (↑(1 : Nat) : Int))) - 0) : Int) - Int.toNat (↑i : Int)) (Int.toNat (↑(Int.toNat (IntKind.wrap IntKind.i64 ((↑n : Int) + (↑(1 : Nat) : Int))) - 0) : Int) - Int.toNat (IntKind.wrap IntKind.i64 ((↑i : Int) + (↑(1 : Nat) : Int)))) * 1) (List.take ((Int.toNat (↑(Int.toNat (IntKind.wrap IntKind.i64 ((↑n : Int) + (↑(1 : Nat) : Int))) - 0) : Int) - Int.toNat (↑i : Int)) * 1) (List.drop (0 + Int.toNat (↑i : Int) * 1) cs)))) ∧ (Oid.isOut (Oid.out 0) = true → noLocL (List.take (Min.min (List.length [AVal.int IntKind.i64 x]) (Int.toNat (↑(Int.toNat (IntKind.wrap IntKind.i64 ((↑n : Int) + (↑(1 : Nat) : Int))) - 0) : Int) - Int.toNat (↑i : Int)) * Go.TypeInfo.size (Go.Tables.types (Go.Program.toTables Try.prog))[3]) (flat [AVal.int IntKind.i64 x])) = true)) = true ∧ true = true)) (Q (AVal.arr (Oid.out 0) 0 (Int.toNat (IntKind.wrap IntKind.i64 ((↑n : Int) + (↑(1 : Nat) : Int))) - 0) (c - 0)) (Sto.set (Sto.set (Sto.one (AObj.cells cs)) 0 (AObj.cells (setRange cs (0 + Int.toNat (IntKind.wrap IntKind.i64 ((↑i : Int) + (↑(1 : Nat) : Int))) * 1) (List.take (Min.min (Int.toNat (↑(Int.toNat (IntKind.wrap IntKind.i64 ((↑n : Int) + (↑(1 : Nat) : Int))) - 0) : Int) - Int.toNat (↑i : Int)) (Int.toNat (↑(Int.toNat (IntKind.wrap IntKind.i64 ((↑n : Int) + (↑(1 : Nat) : Int))) - 0) : Int) - Int.toNat (IntKind.wrap IntKind.i64 ((↑i : Int) + (↑(1 : Nat) : Int)))) * 1) (List.take ((Int.toNat (↑(Int.toNat (IntKind.wrap IntKind.i64 ((↑n : Int) + (↑(1 : Nat) : Int))) - 0) : Int) - Int.toNat (↑i : Int)) * 1) (List.drop (0 + Int.toNat (↑i : Int) * 1) cs)))))) 0 (AObj.cells (setRange (setRange cs (0 + Int.toNat (IntKind.wrap IntKind.i64 ((↑i : Int) + (↑(1 : Nat) : Int))) * 1) (List.take (Min.min (Int.toNat (↑(Int.toNat (IntKind.wrap IntKind.i64 ((↑n : Int) + (↑(1 : Nat) : Int))) - 0) : Int) - Int.toNat (↑i : Int)) (Int.toNat (↑(Int.toNat (IntKind.wrap IntKind.i64 ((↑n : Int) + (↑(1 : Nat) : Int))) - 0) : Int) - Int.toNat (IntKind.wrap IntKind.i64 ((↑i : Int) + (↑(1 : Nat) : Int)))) * 1) (List.take ((Int.toNat (↑(Int.toNat (IntKind.wrap IntKind.i64 ((↑n : Int) + (↑(1 : Nat) : Int))) - 0) : Int) - Int.toNat (↑i : Int)) * 1) (List.drop (0 + Int.toNat (↑i : Int) * 1) cs)))) (0 + Int.toNat (↑i : Int) * 1) (List.take (Min.min 1 (Int.toNat (↑(Int.toNat (IntKind.wrap IntKind.i64 ((↑n : Int) + (↑(1 : Nat) : Int))) - 0) : Int) - Int.toNat (↑i : Int)) * 1) [AVal.int IntKind.i64 x]))))))))))))))))) := by kernel_rfl
theorem insI_i (cs : List AVal) (n c i : Nat) (x : Int) (Q : AVal → Sto → Prop) (ho : OrcOk Try.prog cInsI) (h : gb (decide ((0 : Int) ≤ (↑i : Int) ∧ (↑i : Int) ≤ (↑n : Int) ∧ (↑n : Int) ≤ (↑c : Int))) (brV (hold false) true (Q (AVal.arr (Oid.out 0) 0 n c) (Sto.one (AObj.cells cs))) (brV (hold ((↑i : Int) == (↑n : Int))) true (gb (decide (0 + n * 1 ≤ List.length cs)) (brV (hold (decide (n + 1 ≤ c))) true (gb (decide (decide (true = true ∧ n + 1 ≤ c ∧ 0 + (n + 1) * 1 ≤ List.length cs ∧ (Oid.isOut (Oid.out 0) = true → noLocL (flat [AVal.int IntKind.i64 x]) = true)) = true ∧ true = true)) (Q (AVal.arr (Oid.out 0) 0 (n + 1) c) (Sto.set (Sto.one (AObj.cells cs)) 0 (AObj.cells (setRange cs (0 + n * 1) [AVal.int IntKind.i64 x]))))) (gb (hold (decide ((n + 1) * 8 ≤ 140737488355328 ∧ n + 1 ≤ 9223372036854775807))) (∀ (k : Nat), n + 1 + k ≤ 9223372036854775807 → gb (decide (AObj.noLoc (AObj.cells (List.take (n * 1) cs ++ [AVal.int IntKind.i64 x] ++ List.replicate (k * 1) AVal.undef)) = true ∧ 25 < 95)) (Q (AVal.arr (Oid.out 1) 0 (n + 1) (n + 1 + k)) (Sto.push (Sto.one (AObj.cells cs)) (AObj.cells (List.take (n * 1) cs ++ [AVal.int IntKind.i64 x] ++ List.replicate (k * 1) AVal.undef)))))))) (brV (hold (decide ((↑c : Int) < IntKind.wrap IntKind.i64 ((↑n : Int) + (↑(1 : Nat) : Int))))) true (gb (decide ((0 : Int) ≤ (0 : Int) ∧ (0 : Int) ≤ (↑i : Int) ∧ (↑i : Int) ≤ (↑c : Int))) (gb (hold (decide ((1 : Int) ≤ IntKind.wrap IntKind.i64 (IntKind.wrap IntKind.i64 ((↑n : Int) + (↑(1 : Nat) : Int)) - (↑i : Int)) ∧ IntKind.wrap IntKind.i64 (IntKind.wrap IntKind.i64 ((↑n : Int) + (↑(1 : Nat) : Int)) - (↑i : Int)) ≤ (1000000000000 : Int) ∧ c - 0 < Int.toNat (↑i : Int) - 0 + Int.toNat (IntKind.wrap IntKind.i64 (IntKind.wrap IntKind.i64 ((↑n : Int) + (↑(1 : Nat) : Int)) - (↑i : Int))))) && decide (0 + (Int.toNat (↑i : Int) - 0) * 1 ≤ List.length cs)) (gb (hold (decide ((Int.toNat (↑i : Int) - 0 + Int.toNat (IntKind.wrap IntKind.i64 (IntKind.wrap IntKind.i64 ((↑n : Int) + (↑(1 : Nat) : Int)) - (↑i : Int)))) * 8 ≤ 140737488355328 ∧ Int.toNat (↑i : Int) - 0 + Int.toNat (IntKind.wrap IntKind.i64 (IntKind.wrap IntKind.i64 ((↑n : Int) + (↑(1 : Nat) : Int)) - (↑i : Int))) ≤ 9223372036854775807))) (∀ (k : Nat), Int.toNat (↑i : Int) - 0 + Int.toNat (IntKind.wrap IntKind.i64 (IntKind.wrap IntKind.i64 ((↑n : Int) + (↑(1 : Nat) : Int)) - (↑i : Int))) + k ≤ 9223372036854775807 → gb (decide (AObj.noLoc (AObj.cells (List.take ((Int.toNat (↑i : Int) - 0) * 1) cs ++ flat (List.replicate (Int.toNat (IntKind.wrap IntKind.i64 (IntKind.wrap IntKind.i64 ((↑n : Int) + (↑(1 : Nat) : Int)) - (↑i : Int)))) (AVal.int IntKind.i64 (0 : Int))) ++ List.replicate (k * 1) AVal.undef)) = true ∧ 40 < 95)) (gb (decide ((0 : Int) ≤ (↑i : Int) ∧ (↑i : Int) ≤ (↑(Int.toNat (↑i : Int) - 0 + Int.toNat (IntKind.wrap IntKind.i64 (IntKind.wrap IntKind.i64 ((↑n : Int) + (↑(1 : Nat) : Int)) - (↑i : Int)))) : Int) ∧ (↑(Int.toNat (↑i : Int) - 0 + Int.toNat (IntKind.wrap IntKind.i64 (IntKind.wrap IntKind.i64 ((↑n : Int) + (↑(1 : Nat) : Int)) - (↑i : Int)))) : Int) ≤ (↑(Int.toNat (↑i : Int) - 0 + Int.toNat (IntKind.wrap IntKind.i64 (IntKind.wrap IntKind.i64 ((↑n : Int) + (↑(1 : Nat) : Int)) - (↑i : Int))) + k) : Int))) (gb (decide (decide (true = true ∧ 0 + Int.toNat (↑i : Int) * 1 + Min.min 1 (Int.toNat (↑(Int.toNat (↑i : Int) - 0 + Int.toNat (IntKind.wrap IntKind.i64 (IntKind.wrap IntKind.i64 ((↑n : Int) + (↑(1 : Nat) : Int)) - (↑i : Int)))) : Int) - Int.toNat (↑i : Int)) * 1 ≤ List.length (List.take ((Int.toNat (↑i : Int) - 0) * 1) cs ++ flat (List.replicate (Int.toNat (IntKind.wrap IntKind.i64 (IntKind.wrap IntKind.i64 ((↑n : Int) + (↑(1 : Nat) : Int)) - (↑i : Int)))) (AVal.int IntKind.i64 (0 : Int))) ++ List.replicate (k * 1) AVal.undef) ∧ (Oid.isOut (Oid.out 1) = true → noLocL (List.take (Min.min (List.length [AVal.int IntKind.i64 x]) (Int.toNat (↑(Int.toNat (↑i : Int) - 0 + Int.toNat (IntKind.wrap IntKind.i64 (IntKind.wrap IntKind.i64 ((↑n : Int) + (↑(1 : Nat) : Int)) - (↑i : Int)))) : Int) - Int.toNat (↑i : Int)) * Go.TypeInfo.size (Go.Tables.types (Go.Program.toTables Try.prog))[3]) (flat [AVal.int IntKind.i64 x])) = true)) = true ∧ true = true)) (gb (decide ((0 : Int) ≤ IntKind.wrap IntKind.i64 ((↑i : Int) + (↑(1 : Nat) : Int)) ∧ IntKind.wrap IntKind.i64 ((↑i : Int) + (↑(1 : Nat) : Int)) ≤ (↑(Int.toNat (↑i : Int) - 0 + Int.toNat (IntKind.wrap IntKind.i64 (IntKind.wrap IntKind.i64 ((↑n : Int) + (↑(1 : Nat) : Int)) - (↑i : Int)))) : Int) ∧ (↑(Int.toNat (↑i : Int) - 0 + Int.toNat (IntKind.wrap IntKind.i64 (IntKind.wrap IntKind.i64 ((↑n : Int) + (↑(1 : Nat) : Int)) - (↑i : Int)))) : Int) ≤ (↑(Int.toNat (↑i : Int) - 0 + Int.toNat (IntKind.wrap IntKind.i64 (IntKind.wrap IntKind.i64 ((↑n : Int) + (↑(1 : Nat) : Int)) - (↑i : Int))) + k) : Int))) (gb (decide ((0 : Int) ≤ (↑i : Int) ∧ (↑i : Int) ≤ (↑n : Int) ∧ (↑n : Int) ≤ (↑c : Int))) (gb (decide (decide (decide (0 + Int.toNat (↑i : Int) * 1 + (Int.toNat (↑n : Int) - Int.toNat (↑i : Int)) * 1 ≤ List.length cs) = true ∧ 0 + Int.toNat (IntKind.wrap IntKind.i64 ((↑i : Int) + (↑(1 : Nat) : Int))) * 1 + Min.min (Int.toNat (↑n : Int) - Int.toNat (↑i : Int)) (Int.toNat (↑(Int.toNat (↑i : Int) - 0 + Int.toNat (IntKind.wrap IntKind.i64 (IntKind.wrap IntKind.i64 ((↑n : Int) + (↑(1 : Nat) : Int)) - (↑i : Int)))) : Int) - Int.toNat (IntKind.wrap IntKind.i64 ((↑i : Int) + (↑(1 : Nat) : Int)))) * 1 ≤ List.length (setRange (List.take ((Int.toNat (↑i : Int) - 0) * 1) cs ++ flat (List.replicate (Int.toNat (IntKind.wrap IntKind.i64 (IntKind.wrap IntKind.i64 ((↑n : Int) + (↑(1 : Nat) : Int)) - (↑i : Int)))) (AVal.int IntKind.i64 (0 : Int))) ++ List.replicate (k * 1) AVal.undef) (0 + Int.toNat (↑i : Int) * 1) (List.take (Min.min 1 (Int.toNat (↑(Int.toNat (↑i : Int) - 0 + Int.toNat (IntKind.wrap IntKind.i64 (IntKind.wrap IntKind.i64 ((↑n : Int) + (↑(1 : Nat) : Int)) - (↑i : Int)))) : Int) - Int.toNat (↑i : Int)) * 1) [AVal.int IntKind.i64 x])) ∧ (Oid.isOut (Oid.out 1) = true → noLocL (List.take (Min.min (Int.toNat (↑n : Int) - Int.toNat (↑i : Int)) (Int.toNat (↑(Int.toNat (↑i : Int) - 0 + Int.toNat (IntKind.wrap IntKind.i64 (IntKind.wrap IntKind.i64 ((↑n : Int) + (↑(1 : Nat) : Int)) - (↑i : Int)))) : Int) - Int.toNat (IntKind.wrap IntKind.i64 ((↑i : Int) + (↑(1 : Nat) : Int)))) * Go.TypeInfo.size (Go.Tables.types (Go.Program.toTables Try.prog))[3]) (List.take ((Int.toNat (↑n : Int) - Int.toNat (↑i : Int)) * Go.TypeInfo.size (Go.Tables.types (Go.Program.toTables Try.prog))[3]) (List.drop (0 + Int.toNat (↑i : Int) * 1) cs))) = true)) = true ∧ true = true)) (Q (AVal.arr (Oid.out 1) 0 (Int.toNat (↑i : Int) - 0 + Int.toNat (IntKind.wrap IntKind.i64 (IntKind.wrap IntKind.i64 ((↑n : Int) + (↑(1 : Nat) : Int)) - (↑i : Int)))) (Int.toNat (↑i : Int) - 0 + Int.toNat (IntKind.wrap IntKind.i64 (IntKind.wrap IntKind.i64 ((↑n : Int) + (↑(1 : Nat) : Int)) - (↑i : Int))) + k)) (Sto.set (Sto.set (Sto.push (Sto.one (AObj.cells cs)) (AObj.cells (List.take ((Int.toNat (↑i : Int) - 0) * 1) cs ++ flat (List.replicate (Int.toNat (IntKind.wrap IntKind.i64 (IntKind.wrap IntKind.i64 ((↑n : Int) + (↑(1 : Nat) : Int)) - (↑i : Int)))) (AVal.int IntKind.i64 (0 : Int))) ++ List.replicate (k * 1) AVal.undef))) 1 (AObj.cells (setRange (List.take ((Int.toNat (↑i : Int) - 0) * 1) cs ++ flat (List.replicate (Int.toNat (IntKind.wrap IntKind.i64 (IntKind.wrap IntKind.i64 ((↑n : Int) + (↑(1 : Nat) : Int)) - (↑i : Int)))) (AVal.int IntKind.i64 (0 : Int))) ++ List.replicate (k * 1) AVal.undef) (0 + Int.toNat (↑i : Int) * 1) (List.take (Min.min 1 (Int.toNat (↑(Int.toNat (↑i : Int) - 0 + Int.toNat (IntKind.wrap IntKind.i64 (IntKind.wrap IntKind.i64 ((↑n : Int) + (↑(1 : Nat) : Int)) - (↑i : Int)))) : Int) - Int.toNat (↑i : Int)) * 1) [AVal.int IntKind.i64 x])))) 1 (AObj.cells (setRange (setRange (List.take ((Int.toNat (↑i : Int) - 0) * 1) cs ++ flat (List.replicate (Int.toNat (IntKind.wrap IntKind.i64 (IntKind.wrap IntKind.i64 ((↑n : Int) + (↑(1 : Nat) : Int)) - (↑i : Int)))) (AVal.int IntKind.i64 (0 : Int))) ++ List.replicate (k * 1) AVal.undef) (0 + Int.toNat (↑i : Int) * 1) (List.take (Min.min 1 (Int.toNat (↑(Int.toNat (↑i : Int) - 0 + Int.toNat (IntKind.wrap IntKind.i64 (IntKind.wrap IntKind.i64 ((↑n : Int) + (↑(1 : Nat) : Int)) - (↑i : Int)))) : Int) - Int.toNat (↑i : Int)) * 1) [AVal.int IntKind.i64 x])) (0 + Int.toNat (IntKind.wrap IntKind.i64 ((↑i : Int) + (↑(1 : Nat) : Int))) * 1) (List.take (Min.min (Int.toNat (↑n : Int) - Int.toNat (↑i : Int)) (Int.toNat (↑(Int.toNat (↑i : Int) - 0 + Int.toNat (IntKind.wrap IntKind.i64 (IntKind.wrap IntKind.i64 ((↑n : Int) + (↑(1 : Nat) : Int)) - (↑i : Int)))) : Int) - Int.toNat (IntKind.wrap IntKind.i64 ((↑i : Int) + (↑(1 : Nat) : Int)))) * 1) (List.take ((Int.toNat (↑n : Int) - Int.toNat (↑i : Int)) * 1) (List.drop (0 + Int.toNat (↑i : Int) * 1) cs)))))))))))))))) (gb (decide ((0 : Int) ≤ (0 : Int) ∧ (0 : Int) ≤ IntKind.wrap IntKind.i64 ((↑n : Int) + (↑(1 : Nat) : Int)) ∧ IntKind.wrap IntKind.i64 ((↑n : Int) + (↑(1 : Nat) : Int)) ≤ (↑c : Int))) (gb (decide ((0 : Int) ≤ IntKind.wrap IntKind.i64 ((↑i : Int) + (↑(1 : Nat) : Int)) ∧ IntKind.wrap IntKind.i64 ((↑i : Int) + (↑(1 : Nat) : Int)) ≤ (↑(Int.toNat (IntKind.wrap IntKind.i64 ((↑n : Int) + (↑(1 : Nat) : Int))) - 0) : Int) ∧ (↑(Int.toNat (IntKind.wrap IntKind.i64 ((↑n : Int) + (↑(1 : Nat) : Int))) - 0) : Int) ≤ (↑(c - 0) : Int))) (gb (decide (0 < 1 ∧ 0 + Int.toNat (IntKind.wrap IntKind.i64 ((↑i : Int) + (↑(1 : Nat) : Int))) * 1 + (Int.toNat (↑(Int.toNat (IntKind.wrap IntKind.i64 ((↑n : Int) + (↑(1 : Nat) : Int))) - 0) : Int) - Int.toNat (IntKind.wrap IntKind.i64 ((↑i : Int) + (↑(1 : Nat) : Int)))) ≤ List.length cs)) (gb (decide ((0 : Int) ≤ IntKind.wrap IntKind.i64 ((↑i : Int) + (↑(1 : Nat) : Int)) ∧ IntKind.wrap IntKind.i64 ((↑i : Int) + (↑(1 : Nat) : Int)) ≤ (↑(Int.toNat (IntKind.wrap IntKind.i64 ((↑n : Int) + (↑(1 : Nat) : Int))) - 0) : Int) ∧ (↑(Int.toNat (IntKind.wrap IntKind.i64 ((↑n : Int) + (↑(1 : Nat) : Int))) - 0) : Int) ≤ (↑(c - 0) : Int))) (gb (decide ((0 : Int) ≤ (↑i : Int) ∧ (↑i : Int) ≤ (↑(Int.toNat (IntKind.wrap IntKind.i64 ((↑n : Int) + (↑(1 : Nat) : Int))) - 0) : Int) ∧ (↑(Int.toNat (IntKind.wrap IntKind.i64 ((↑n : Int) + (↑(1 : Nat) : Int))) - 0) : Int) ≤ (↑(c - 0) : Int))) (gb (decide (decide (decide (0 + Int.toNat (↑i : Int) * 1 + (Int.toNat (↑(Int.toNat (IntKind.wrap IntKind.i64 ((↑n : Int) + (↑(1 : Nat) : Int))) - 0) : Int) - Int.toNat (↑i : Int)) * 1 ≤ List.length cs) = true ∧ 0 + Int.toNat (IntKind.wrap IntKind.i64 ((↑i : Int) + (↑(1 : Nat) : Int))) * 1 + Min.min (Int.toNat (↑(Int.toNat (IntKind.wrap IntKind.i64 ((↑n : Int) + (↑(1 : Nat) : Int))) - 0) : Int) - Int.toNat (↑i : Int)) (Int.toNat (↑(Int.toNat (IntKind.wrap IntKind.i64 ((↑n : Int) + (↑(1 : Nat) : Int))) - 0) : Int) - Int.toNat (IntKind.wrap IntKind.i64 ((↑i : Int) + (↑(1 : Nat) : Int)))) * 1 ≤ List.length cs ∧ (Oid.isOut (Oid.out 0) = true → noLocL (List.take (Min.min (Int.toNat (↑(Int.toNat (IntKind.wrap IntKind.i64 ((↑n : Int) + (↑(1 : Nat) : Int))) - 0) : Int) - Int.toNat (↑i : Int)) (Int.toNat (↑(Int.toNat (IntKind.wrap IntKind.i64 ((↑n : Int) + (↑(1 : Nat) : Int))) - 0) : Int) - Int.toNat (IntKind.wrap IntKind.i64 ((↑i : Int) + (↑(1 : Nat) : Int)))) * Go.TypeInfo.size (Go.Tables.types (Go.Program.toTables Try.prog))[3]) (List.take ((Int.toNat (↑(Int.toNat (IntKind.wrap IntKind.i64 ((↑n : Int) + (↑(1 : Nat) : Int))) - 0) : Int) - Int.toNat (↑i : Int)) * Go.TypeInfo.size (Go.Tables.types (Go.Program.toTables Try.prog))[3]) (List.drop (0 + Int.toNat (↑i : Int) * 1) cs))) = true)) = true ∧ true = true)) (gb (decide ((0 : Int) ≤ (↑i : Int) ∧ (↑i : Int) ≤ (↑(Int.toNat (IntKind.wrap IntKind.i64 ((↑n : Int) + (↑(1 : Nat) : Int))) - 0) : Int) ∧ (↑(Int.toNat (IntKind.wrap IntKind.i64 ((↑n : Int) + (↑(1 : Nat) : Int))) - 0) : Int) ≤ (↑(c - 0) : Int))) (gb (decide (decide (true = true ∧ 0 + Int.toNat (↑i : Int) * 1 + Min.min 1 (Int.toNat (↑(Int.toNat (IntKind.wrap IntKind.i64 ((↑n : Int) + (↑(1 : Nat) : Int))) - 0) : Int) - Int.toNat (↑i : Int)) * 1 ≤ List.length (setRange cs (0 + Int.toNat (IntKind.wrap IntKind.i64 ((↑i : Int) + (↑(1 : Nat) : Int))) * 1) (List.take (Min.min (Int.toNat (↑(Int.toNat (IntKind.wrap IntKind.i64 ((↑n : Int) + (↑(1 : Nat) : Int))) - 0) : Int) - Int.toNat (↑i : Int)) (Int.toNat (↑(Int.toNat (IntKind.wrap IntKind.i64 ((↑n : Int) + (↑(1 : Nat) : Int))) - 0) : Int) - Int.toNat (IntKind.wrap IntKind.i64 ((↑i : Int) + (↑(1 : Nat) : Int)))) * 1) (List.take ((Int.toNat (↑(Int.toNat (IntKind.wrap IntKind.i64 ((↑n : Int) + (↑(1 : Nat) : Int))) - 0) : Int) - Int.toNat (↑i : Int)) * 1) (List.drop (0 + Int.toNat (↑i : Int) * 1) cs)))) ∧ (Oid.isOut (Oid.out 0) = true → noLocL (List.take (Min.min (List.length [AVal.int IntKind.i64 x]) (Int.toNat (↑(Int.toNat (IntKind.wrap IntKind.i64 ((↑n : Int) + (↑(1 : Nat) : Int))) - 0) : Int) - Int.toNat (↑i : Int)) * Go.TypeInfo.size (Go.Tables.types (Go.Program.toTables Try.prog))[3]) (flat [AVal.int IntKind.i64 x])) = true)) = true ∧ true = true)) (Q (AVal.arr (Oid.out 0) 0 (Int.toNat (IntKind.wrap IntKind.i64 ((↑n : Int) + (↑(1 : Nat) : Int))) - 0) (c - 0)) (Sto.set (Sto.set (Sto.one (AObj.cells cs)) 0 (AObj.cells (setRange cs (0 + Int.toNat (IntKind.wrap IntKind.i64 ((↑i : Int) + (↑(1 : Nat) : Int))) * 1) (List.take (Min.min (Int.toNat (↑(Int.toNat (IntKind.wrap IntKind.i64 ((↑n : Int) + (↑(1 : Nat) : Int))) - 0) : Int) - Int.toNat (↑i : Int)) (Int.toNat (↑(Int.toNat (IntKind.wrap IntKind.i64 ((↑n : Int) + (↑(1 : Nat) : Int))) - 0) : Int) - Int.toNat (IntKind.wrap IntKind.i64 ((↑i : Int) + (↑(1 : Nat) : Int)))) * 1) (List.take ((Int.toNat (↑(Int.toNat (IntKind.wrap IntKind.i64 ((↑n : Int) + (↑(1 : Nat) : Int))) - 0) : Int) - Int.toNat (↑i : Int)) * 1) (List.drop (0 + Int.toNat (↑i : Int) * 1) cs)))))) 0 (AObj.cells (setRange (setRange cs (0 + Int.toNat (IntKind.wrap IntKind.i64 ((↑i : Int) + (↑(1 : Nat) : Int))) * 1) (List.take (Min.min (Int.toNat (↑(Int.toNat (IntKind.wrap IntKind.i64 ((↑n : Int) + (↑(1 : Nat) : Int))) - 0) : Int) - Int.toNat (↑i : Int)) (Int.toNat (↑(Int.toNat (IntKind.wrap IntKind.i64 ((↑n : Int) + (↑(1 : Nat) : Int))) - 0) : Int) - Int.toNat (IntKind.wrap IntKind.i64 ((↑i : Int) + (↑(1 : Nat) : Int)))) * 1) (List.take ((Int.toNat (↑(Int.toNat (IntKind.wrap IntKind.i64 ((↑n : Int) + (↑(1 : Nat) : Int))) - 0) : Int) - Int.toNat (↑i : Int)) * 1) (List.drop (0 + Int.toNat (↑i : Int) * 1) cs)))) (0 + Int.toNat (↑i : Int) * 1) (List.take (Min.min 1 (Int.toNat (↑(Int.toNat (IntKind.wrap IntKind.i64 ((↑n : Int) + (↑(1 : Nat) : Int))) - 0) : Int) - Int.toNat (↑i : Int)) * 1) [AVal.int IntKind.i64 x]))))))))))))))))) : ACall Try.prog 40 [.arr (.out 0) 0 n c, .int .i64 (i : Int), .slice [.int .i64 x] 1 .ro] (Sto.one (.cells cs)) Q :=
  ACall.intro hmix Try.func40 (c := code_40_) (by kernel_rfl) cInsI ho (Nat.le_of_ble_eq_true (by kernel_rfl)) (by rw [insI_r]; exact h)
theorem insIH_r (i : Nat) (x : Int) (Q : AVal → Sto → Prop) : vc Try.prog cInsI code_40_ (endK Try.prog Try.f40.results.toList Q) (St.start Try.f40.ntmps [.slice [] 1 .full, .int .i64 (i : Int), .slice [.int .i64 x] 1 .ro] (Sto.empty)) =
  (gb (decide ((0 : Int) ≤ (↑i : Int) ∧ (↑i : Int) ≤ (0 : Int) ∧ (0 : Int) ≤ (0 : Int))) (brV (hold false) true (Q (AVal.slice [] 1 Tag.full) Sto.empty) (brV (hold ((↑i : Int) == (0 : Int))) true (Q (AVal.slice [AVal.int IntKind.i64 x] 1 (Tag.own 0)) (Sto.pushOwn Sto.empty (0 + 1))) False))) := by kernel_rfl
theorem insIH_i (i : Nat) (x : Int) (Q : AVal → Sto → Prop) (ho : OrcOk Try.prog cInsI) (h : gb (decide ((0 : Int) ≤ (↑i : Int) ∧ (↑i : Int) ≤ (0 : Int) ∧ (0 : Int) ≤ (0 : Int))) (brV (hold false) true (Q (AVal.slice [] 1 Tag.full) Sto.empty) (brV (hold ((↑i : Int) == (0 : Int))) true (Q (AVal.slice [AVal.int IntKind.i64 x] 1 (Tag.own 0)) (Sto.pushOwn Sto.empty (0 + 1))) False))) : ACall Try.prog 40 [.slice [] 1 .full, .int .i64 (i : Int), .slice [.int .i64 x] 1 .ro] (Sto.empty) Q :=
  ACall.intro hmix Try.func40 (c := code_40_) (by kernel_rfl) cInsI ho (Nat.le_of_ble_eq_true (by kernel_rfl)) (by rw [insIH_r]; exact h)
theorem del_r (cs : List AVal) (n c i j : Nat) (Q : AVal → Sto → Prop) : vc Try.prog cDel code_45_ (endK Try.prog Try.f45.results.toList Q) (St.start Try.f45.ntmps [.arr (.out 0) 0 n c, .int .i64 (i : Int), .int .i64 (j : Int)] (Sto.one (.cells cs))) =
  (gb (decide ((0 : Int) ≤ (↑i : Int) ∧ (↑i : Int) ≤ (↑j : Int) ∧ (↑j : Int) ≤ (↑n : Int) ∧ (↑n : Int) ≤ (↑c : Int))) (brV (hold ((↑i : Int) == (↑j : Int))) true (Q (AVal.arr (Oid.out 0) 0 n c) (Sto.one (AObj.cells cs))) (gb (decide ((0 : Int) ≤ (0 : Int) ∧ (0 : Int) ≤ (↑i : Int) ∧ (↑i : Int) ≤ (↑c : Int))) (gb (decide ((0 : Int) ≤ (↑j : Int) ∧ (↑j : Int) ≤ (↑n : Int) ∧ (↑n : Int) ≤ (↑c : Int))) (gb (decide (decide (decide (0 + Int.toNat (↑j : Int) * 1 + (Int.toNat (↑n : Int) - Int.toNat (↑j : Int)) * 1 ≤ List.length cs) = true ∧ Int.toNat (↑i : Int) - 0 + (Int.toNat (↑n : Int) - Int.toNat (↑j : Int)) ≤ c - 0 ∧ 0 + (Int.toNat (↑i : Int) - 0 + (Int.toNat (↑n : Int) - Int.toNat (↑j : Int))) * 1 ≤ List.length cs ∧ (Oid.isOut (Oid.out 0) = true → noLocL (List.take ((Int.toNat (↑n : Int) - Int.toNat (↑j : Int)) * Go.TypeInfo.size (Go.Tables.types (Go.Program.toTables Try.prog))[9]) (List.drop (0 + Int.toNat (↑j : Int) * 1) cs)) = true)) = true ∧ true = true)) (gb (decide ((0 : Int) ≤ (↑(Int.toNat (↑i : Int) - 0 + (Int.toNat (↑n : Int) - Int.toNat (↑j : Int))) : Int) ∧ (↑(Int.toNat (↑i : Int) - 0 + (Int.toNat (↑n : Int) - Int.toNat (↑j : Int))) : Int) ≤ (↑n : Int) ∧ (↑n : Int) ≤ (↑(c - 0) : Int))) (gb (decide (decide (0 + Int.toNat (↑(Int.toNat (↑i : Int) - 0 + (Int.toNat (↑n : Int) - Int.toNat (↑j : Int))) : Int) * 1 + (Int.toNat (↑n : Int) - Int.toNat (↑(Int.toNat (↑i : Int) - 0 + (Int.toNat (↑n : Int) - Int.toNat (↑j : Int))) : Int)) * 1 ≤ List.length (setRange cs (0 + (Int.toNat (↑i : Int) - 0) * 1) (List.take ((Int.toNat (↑n : Int) - Int.toNat (↑j : Int)) * 1) (List.drop (0 + Int.toNat (↑j : Int) * 1) cs))) ∧ true = true) = true ∧ true = true)) (Q (AVal.arr (Oid.out 0) 0 (Int.toNat (↑i : Int) - 0 + (Int.toNat (↑n : Int) - Int.toNat (↑j : Int))) (c - 0)) (Sto.set (Sto.set (Sto.one (AObj.cells cs)) 0 (AObj.cells (setRange cs (0 + (Int.toNat (↑i : Int) - 0) * 1) (List.take ((Int.toNat (↑n : Int) - Int.toNat (↑j : Int)) * 1) (List.drop (0 + Int.toNat (↑j : Int) * 1) cs))))) 0 (AObj.cells (setRange (setRange cs (0 + (Int.toNat (↑i : Int) - 0) * 1) (List.take ((Int.toNat (↑n : Int) - Int.toNat (↑j : Int)) * 1) (List.drop (0 + Int.toNat (↑j : Int) * 1) cs))) (0 + Int.toNat (↑(Int.toNat (↑i : Int) - 0 + (Int.toNat (↑n : Int) - Int.toNat (↑j : Int))) : Int) * 1) (flat (List.replicate (Int.toNat (↑n : Int) - Int.toNat (↑(Int.toNat (↑i : Int) - 0 + (Int.toNat (↑n : Int) - Int.toNat (↑j : Int))) : Int)) (AVal.str [])))))))))))))) := by kernel_rfl
theorem del_i (cs : List AVal) (n c i j : Nat) (Q : AVal → Sto → Prop) (ho : OrcOk Try.prog cDel) (h : gb (decide ((0 : Int) ≤ (↑i : Int) ∧ (↑i : Int) ≤ (↑j : Int) ∧ (↑j : Int) ≤ (↑n : Int) ∧ (↑n : Int) ≤ (↑c : Int))) (brV (hold ((↑i : Int) == (↑j : Int))) true (Q (AVal.arr (Oid.out 0) 0 n c) (Sto.one (AObj.cells cs))) (gb (decide ((0 : Int) ≤ (0 : Int) ∧ (0 : Int) ≤ (↑i : Int) ∧ (↑i : Int) ≤ (↑c : Int))) (gb (decide ((0 : Int) ≤ (↑j : Int) ∧ (↑j : Int) ≤ (↑n : Int) ∧ (↑n : Int) ≤ (↑c : Int))) (gb (decide (decide (decide (0 + Int.toNat (↑j : Int) * 1 + (Int.toNat (↑n : Int) - Int.toNat (↑j : Int)) * 1 ≤ List.length cs) = true ∧ Int.toNat (↑i : Int) - 0 + (Int.toNat (↑n : Int) - Int.toNat (↑j : Int)) ≤ c - 0 ∧ 0 + (Int.toNat (↑i : Int) - 0 + (Int.toNat (↑n : Int) - Int.toNat (↑j : Int))) * 1 ≤ List.length cs ∧ (Oid.isOut (Oid.out 0) = true → noLocL (List.take ((Int.toNat (↑n : Int) - Int.toNat (↑j : Int)) * Go.TypeInfo.size (Go.Tables.types (Go.Program.toTables Try.prog))[9]) (List.drop (0 + Int.toNat (↑j : Int) * 1) cs)) = true)) = true ∧ true = true)) (gb (decide ((0 : Int) ≤ (↑(Int.toNat (↑i : Int) - 0 + (Int.toNat (↑n : Int) - Int.toNat (↑j : Int))) : Int) ∧ (↑(Int.toNat (↑i : Int) - 0 + (Int.toNat (↑n : Int) - Int.toNat (↑j : Int))) : Int) ≤ (↑n : Int) ∧ (↑n : Int) ≤ (↑(c - 0) : Int))) (gb (decide (decide (0 + Int.toNat (↑(Int.toNat (↑i : Int) - 0 + (Int.toNat (↑n : Int) - Int.toNat (↑j : Int))) : Int) * 1 + (Int.toNat (↑n : Int) - Int.toNat (↑(Int.toNat (↑i : Int) - 0 + (Int.toNat (↑n : Int) - Int.toNat (↑j : Int))) : Int)) * 1 ≤ List.length (setRange cs (0 + (Int.toNat (↑i : Int) - 0) * 1) (List.take ((Int.toNat (↑n : Int) - Int.toNat (↑j : Int)) * 1) (List.drop (0 + Int.toNat (↑j : Int) * 1) cs))) ∧ true = true) = true ∧ true = true)) (Q (AVal.arr (Oid.out 0) 0 (Int.toNat (↑i : Int) - 0 + (Int.toNat (↑n : Int) - Int.toNat (↑j : Int))) (c - 0)) (Sto.set (Sto.set (Sto.one (AObj.cells cs)) 0 (AObj.cells (setRange cs (0 + (Int.toNat (↑i : Int) - 0) * 1) (List.take ((Int.toNat (↑n : Int) - Int.toNat (↑j : Int)) * 1) (List.drop (0 + Int.toNat (↑j : Int) * 1) cs))))) 0 (AObj.cells (setRange (setRange cs (0 + (Int.toNat (↑i : Int) - 0) * 1) (List.take ((Int.toNat (↑n : Int) - Int.toNat (↑j : Int)) * 1) (List.drop (0 + Int.toNat (↑j : Int) * 1) cs))) (0 + Int.toNat (↑(Int.toNat (↑i : Int) - 0 + (Int.toNat (↑n : Int) - Int.toNat (↑j : Int))) : Int) * 1) (flat (List.replicate (Int.toNat (↑n : Int) - Int.toNat (↑(Int.toNat (↑i : Int) - 0 + (Int.toNat (↑n : Int) - Int.toNat (↑j : Int))) : Int)) (AVal.str [])))))))))))))) : ACall Try.prog 45 [.arr (.out 0) 0 n c, .int .i64 (i : Int), .int .i64 (j : Int)] (Sto.one (.cells cs)) Q :=
  ACall.intro hmix Try.func45 (c := code_45_) (by kernel_rfl) cDel ho (Nat.le_of_ble_eq_true (by kernel_rfl)) (by rw [del_r]; exact h)
theorem delI_r (cs : List AVal) (n c i j : Nat) (Q : AVal → Sto → Prop) : vc Try.prog cDelI code_46_ (endK Try.prog Try.f46.results.toList Q) (St.start Try.f46.ntmps [.arr (.out 0) 0 n c, .int .i64 (i : Int), .int .i64 (j : Int)] (Sto.one (.cells cs))) =
  (gb (decide ((0 : Int) ≤ (↑i : Int) ∧ (↑i : Int) ≤ (↑j : Int) ∧ (↑j : Int) ≤ (↑n : Int) ∧ (↑n : Int) ≤ (↑c : Int))) (brV (hold ((↑i : Int) == (↑j : Int))) true (Q (AVal.arr (Oid.out 0) 0 n c) (Sto.one (AObj.cells cs))) (gb (decide ((0 : Int) ≤ (0 : Int) ∧ (0 : Int) ≤ (↑i : Int) ∧ (↑i : Int) ≤ (↑c : Int))) (gb (decide ((0 : Int) ≤ (↑j : Int) ∧ (↑j : Int) ≤ (↑n : Int) ∧ (↑n : Int) ≤ (↑c : Int))) (gb (decide (decide (decide (0 + Int.toNat (↑j : Int) * 1 + (Int.toNat (↑n : Int) - Int.toNat (↑j : Int)) * 1 ≤ List.length cs) = true ∧ Int.toNat (↑i : Int) - 0 + (Int.toNat (↑n : Int) - Int.toNat (↑j : Int)) ≤ c - 0 ∧ 0 + (Int.toNat (↑i : Int) - 0 + (Int.toNat (↑n : Int) - Int.toNat (↑j : Int))) * 1 ≤ List.length cs ∧ (Oid.isOut (Oid.out 0) = true → noLocL (List.take ((Int.toNat (↑n : Int) - Int.toNat (↑j : Int)) * Go.TypeInfo.size (Go.Tables.types (Go.Program.toTables Try.prog))[3]) (List.drop (0 + Int.toNat (↑j : Int) * 1) cs)) = true)) = true ∧ true = true)) (gb (decide ((0 : Int) ≤ (↑(Int.toNat (↑i : Int) - 0 + (Int.toNat (↑n : Int) - Int.toNat (↑j : Int))) : Int) ∧ (↑(Int.toNat (↑i : Int) - 0 + (Int.toNat (↑n : Int) - Int.toNat (↑j : Int))) : Int) ≤ (↑n : Int) ∧ (↑n : Int) ≤ (↑(c - 0) : Int))) (gb (decide (decide (0 + Int.toNat (↑(Int.toNat (↑i : Int) - 0 + (Int.toNat (↑n : Int) - Int.toNat (↑j : Int))) : Int) * 1 + (Int.toNat (↑n : Int) - Int.toNat (↑(Int.toNat (↑i : Int) - 0 + (Int.toNat (↑n : Int) - Int.toNat (↑j : Int))) : Int)) * 1 ≤ List.length (setRange cs (0 + (Int.toNat (↑i : Int) - 0) * 1) (List.take ((Int.toNat (↑n : Int) - Int.toNat (↑j : Int)) * 1) (List.drop (0 + Int.toNat (↑j : Int) * 1) cs))) ∧ true = true) = true ∧ true = true)) (Q (AVal.arr (Oid.out 0) 0 (Int.toNat (↑i : Int) - 0 + (Int.toNat (↑n : Int) - Int.toNat (↑j : Int))) (c - 0)) (Sto.set (Sto.set (Sto.one (AObj.cells cs)) 0 (AObj.cells (setRange cs (0 + (Int.toNat (↑i : Int) - 0) * 1) (List.take ((Int.toNat (↑n : Int) - Int.toNat (↑j : Int)) * 1) (List.drop (0 + Int.toNat (↑j : Int) * 1) cs))))) 0 (AObj.cells (setRange (setRange cs (0 + (Int.toNat (↑i : Int) - 0) * 1) (List.take ((Int.toNat (↑n : Int) - Int.toNat (↑j : Int)) * 1) (List.drop (0 + Int.toNat (↑j : Int) * 1) cs))) (0 + Int.toNat (↑(Int.toNat (↑i : Int) - 0 + (Int.toNat (↑n : Int) - Int.toNat (↑j : Int))) : Int) * 1) (flat (List.replicate (Int.toNat (↑n : Int) - Int.toNat (↑(Int.toNat (↑i : Int) - 0 + (Int.toNat (↑n : Int) - Int.toNat (↑j : Int))) : Int)) (AVal.int IntKind.i64 (0 : Int))))))))))))))) := by kernel_rfl
theorem delI_i (cs : List AVal) (n c i j : Nat) (Q : AVal → Sto → Prop) (ho : OrcOk Try.prog cDelI) (h : gb (decide ((0 : Int) ≤ (↑i : Int) ∧ (↑i : Int) ≤ (↑j : Int) ∧ (↑j : Int) ≤ (↑n : Int) ∧ (↑n : Int) ≤ (↑c : Int))) (brV (hold ((↑i : Int) == (↑j : Int))) true (Q (AVal.arr (Oid.out 0) 0 n c) (Sto.one (AObj.cells cs))) (gb (decide ((0 : Int) ≤ (0 : Int) ∧ (0 : Int) ≤ (↑i : Int) ∧ (↑i : Int) ≤ (↑c : Int))) (gb (decide ((0 : Int) ≤ (↑j : Int) ∧ (↑j : Int) ≤ (↑n : Int) ∧ (↑n : Int) ≤ (↑c : Int))) (gb (decide (decide (decide (0 + Int.toNat (↑j : Int) * 1 + (Int.toNat (↑n : Int) - Int.toNat (↑j : Int)) * 1 ≤ List.length cs) = true ∧ Int.toNat (↑i : Int) - 0 + (Int.toNat (↑n : Int) - Int.toNat (↑j : Int)) ≤ c - 0 ∧ 0 + (Int.toNat (↑i : Int) - 0 + (Int.toNat (↑n : Int) - Int.toNat (↑j : Int))) * 1 ≤ List.length cs ∧ (Oid.isOut (Oid.out 0) = true → noLocL (List.take ((Int.toNat (↑n : Int) - Int.toNat (↑j : Int)) * Go.TypeInfo.size (Go.Tables.types (Go.Program.toTables Try.prog))[3]) (List.drop (0 + Int.toNat (↑j : Int) * 1) cs)) = true)) = true ∧ true = true)) (gb (decide ((0 : Int) ≤ (↑(Int.toNat (↑i : Int) - 0 + (Int.toNat (↑n : Int) - Int.toNat (↑j : Int))) : Int) ∧ (↑(Int.toNat (↑i : Int) - 0 + (Int.toNat (↑n : Int) - Int.toNat (↑j : Int))) : Int) ≤ (↑n : Int) ∧ (↑n : Int) ≤ (↑(c - 0) : Int))) (gb (decide (decide (0 + Int.toNat (↑(Int.toNat (↑i : Int) - 0 + (Int.toNat (↑n : Int) - Int.toNat (↑j : Int))) : Int) * 1 + (Int.toNat (↑n : Int) - Int.toNat (↑(Int.toNat (↑i : Int) - 0 + (Int.toNat (↑n : Int) - Int.toNat (↑j : Int))) : Int)) * 1 ≤ List.length (setRange cs (0 + (Int.toNat (↑i : Int) - 0) * 1) (List.take ((Int.toNat (↑n : Int) - Int.toNat (↑j : Int)) * 1) (List.drop (0 + Int.toNat (↑j : Int) * 1) cs))) ∧ true = true) = true ∧ true = true)) (Q (AVal.arr (Oid.out 0) 0 (Int.toNat (↑i : Int) - 0 + (Int.toNat (↑n : Int) - Int.toNat (↑j : Int))) (c - 0)) (Sto.set (Sto.set (Sto.one (AObj.cells cs)) 0 (AObj.cells (setRange cs (0 + (Int.toNat (↑i : Int) - 0) * 1) (List.take ((Int.toNat (↑n : Int) - Int.toNat (↑j : Int)) * 1) (List.drop (0 + Int.toNat (↑j : Int) * 1) cs))))) 0 (AObj.cells (setRange (setRange cs (0 + (Int.toNat (↑i : Int) - 0) * 1) (List.take ((Int.toNat (↑n : Int) - Int.toNat (↑j : Int)) * 1) (List.drop (0 + Int.toNat (↑j : Int) * 1) cs))) (0 + Int.toNat (↑(Int.toNat (↑i : Int) - 0 + (Int.toNat (↑n : Int) - Int.toNat (↑j : Int))) : Int) * 1) (flat (List.replicate (Int.toNat (↑n : Int) - Int.toNat (↑(Int.toNat (↑i : Int) - 0 + (Int.toNat (↑n : Int) - Int.toNat (↑j : Int))) : Int)) (AVal.int IntKind.i64 (0 : Int))))))))))))))) : ACall Try.prog 46 [.arr (.out 0) 0 n c, .int .i64 (i : Int), .int .i64 (j : Int)] (Sto.one (.cells cs)) Q :=
  ACall.intro hmix Try.func46 (c := code_46_) (by kernel_rfl) cDelI ho (Nat.le_of_ble_eq_true (by kernel_rfl)) (by rw [delI_r]; exact h)
theorem cloneS_r (l : List Txt) (Q : AVal → Sto → Prop) : vc Try.prog cCloneS code_39_ (endK Try.prog Try.f39.results.toList Q) (St.start Try.f39.ntmps [.slice (strv l) 1 .ro] (Sto.empty)) =
  (∀ (b : Bool), (b = true → List.isEmpty (strv l) = true) → (false = true → b = true) → brV (b == true) true (Q (AVal.slice [] 0 Tag.nil) Sto.empty) (gb (decide (decide (true = true ∧ (true = true ∨ 0 < List.length (strv l)) ∧ (0 + List.length (strv l)) * 16 ≤ 140737488355328 ∧ 0 + List.length (strv l) ≤ 9223372036854775807) = true ∧ true = true)) (Q (AVal.slice ([] ++ strv l) 1 (Tag.own 0)) (Sto.pushOwn Sto.empty (0 + List.length (strv l)))))) := by kernel_rfl
theorem cloneS_i (l : List Txt) (Q : AVal → Sto → Prop) (ho : OrcOk Try.prog cCloneS) (h : ∀ (b : Bool), (b = true → List.isEmpty (strv l) = true) → (false = true → b = true) → brV (b == true) true (Q (AVal.slice [] 0 Tag.nil) Sto.empty) (gb (decide (decide (true = true ∧ (true = true ∨ 0 < List.length (strv l)) ∧ (0 + List.length (strv l)) * 16 ≤ 140737488355328 ∧ 0 + List.length (strv l) ≤ 9223372036854775807) = true ∧ true = true)) (Q (AVal.slice ([] ++ strv l) 1 (Tag.own 0)) (Sto.pushOwn Sto.empty (0 + List.length (strv l)))))) : ACall Try.prog 39 [.slice (strv l) 1 .ro] (Sto.empty) Q :=
  ACall.intro hmix Try.func39 (c := code_39_) (by kernel_rfl) cCloneS ho (Nat.le_of_ble_eq_true (by kernel_rfl)) (by rw [cloneS_r]; exact h)
theorem cloneIS_r (l : List Int) (Q : AVal → Sto → Prop) : vc Try.prog cCloneIS code_42_ (endK Try.prog Try.f42.results.toList Q) (St.start Try.f42.ntmps [.slice (iv l) 1 .ro] (Sto.empty)) =
  (∀ (b : Bool), (b = true → List.isEmpty (iv l) = true) → (false = true → b = true) → brV (b == true) true (Q (AVal.slice [] 0 Tag.nil) Sto.empty) (gb (decide (decide (true = true ∧ (true = true ∨ 0 < List.length (iv l)) ∧ (0 + List.length (iv l)) * 8 ≤ 140737488355328 ∧ 0 + List.length (iv l) ≤ 9223372036854775807) = true ∧ true = true)) (Q (AVal.slice ([] ++ iv l) 1 (Tag.own 0)) (Sto.pushOwn Sto.empty (0 + List.length (iv l)))))) := by kernel_rfl
theorem cloneIS_i (l : List Int) (Q : AVal → Sto → Prop) (ho : OrcOk Try.prog cCloneIS) (h : ∀ (b : Bool), (b = true → List.isEmpty (iv l) = true) → (false = true → b = true) → brV (b == true) true (Q (AVal.slice [] 0 Tag.nil) Sto.empty) (gb (decide (decide (true = true ∧ (true = true ∨ 0 < List.length (iv l)) ∧ (0 + List.length (iv l)) * 8 ≤ 140737488355328 ∧ 0 + List.length (iv l) ≤ 9223372036854775807) = true ∧ true = true)) (Q (AVal.slice ([] ++ iv l) 1 (Tag.own 0)) (Sto.pushOwn Sto.empty (0 + List.length (iv l)))))) : ACall Try.prog 42 [.slice (iv l) 1 .ro] (Sto.empty) Q :=
  ACall.intro hmix Try.func42 (c := code_42_) (by kernel_rfl) cCloneIS ho (Nat.le_of_ble_eq_true (by kernel_rfl)) (by rw [cloneIS_r]; exact h)
end Go.Proofs.Ytlfnmhfmikomkaa
end

section
namespace Go.Proofs.Ytlfnmhfmikomkaa
open Go.AL
set_option linter.unusedSimpArgs false
set_option linter.unusedVariables false
set_option maxHeartbeats 4000000
set_option maxRecDepth 20000

theorem dtt {b : Bool} (h : b = true) : decide (b = true ∧ True) = true := by subst h; rfl
theorem ovOk_of {g : FuncId} {fn : Func} {T e : TypeId} (h1 : Try.prog.funcs[g]? = some fn) (h2 : (fn.name == "runtime.NumGoroutine") = false) (h3 : fn.body.isNone = true) (h4 : Extern.findNext fn = none)
    (h5 : Extern.find fn = some (Extern.SlicesOverlaps.overlaps fn.params fn.resultTypes)) (h6 : fn.params[0]? = some T) (h7 : Try.prog.underlying T = some (.slice e)) (h8 : (Try.prog.info? e).isSome = true) : OvOk Try.prog g := by
  obtain ⟨inf, hi⟩ := Option.isSome_iff_exists.1 h8
  exact ⟨fn, T, e, inf, h1, h2, h3, h4, h5, h6, h7, hi⟩
theorem ovOk (g : FuncId) (h : isOvS g = true) : OvOk Try.prog g := by
  have e := Nat.eq_of_beq_eq_true h
  subst e
  exact ovOk_of (fn := Try.f66) (T := 22) (e := 9) (by kernel_rfl) (by kernel_rfl) (by kernel_rfl) (by kernel_rfl) (by kernel_rfl) (by kernel_rfl) (by kernel_rfl) (by kernel_rfl)
theorem ovOkI (g : FuncId) (h : isOvI g = true) : OvOk Try.prog g := by
  have e := Nat.eq_of_beq_eq_true h
  subst e
  exact ovOk_of (fn := Try.f69) (T := 24) (e := 3) (by kernel_rfl) (by kernel_rfl) (by kernel_rfl) (by kernel_rfl) (by kernel_rfl) (by kernel_rfl) (by kernel_rfl) (by kernel_rfl)

theorem clone_c (σ : Sto) (l : List Txt) (hl : l.length ≤ 1000000) : ACall Try.prog 39 [.slice (strv l) 1 .ro] σ fun r τ => r = .mrow σ.nobj (strv l).length ∧ τ = σ.pushRow (strv l) 1 := by
  have hn : (strv l).length = l.length := strv_length l
  refine ACall.closeRow (by omega) (fun e he => by obtain ⟨x, _, rfl⟩ := List.mem_map.1 he; rfl) ?_
  refine clone_i σ l _ (.of_none rfl) ?_
  simp only [hold_eq, true_and]
  intro b hb _
  refine brV_by (fun h => ?_) (fun h => ?_)
  · have hb1 : b = true := by simpa using h
    have : strv l = [] := List.isEmpty_iff.1 (hb hb1)
    exact .inl ⟨this, 0, .inl rfl⟩
  · refine brV_by (fun h => ?_) (fun h => ?_)
    · have : strv l = [] := List.eq_nil_of_length_eq_zero (by simpa using h)
      exact .inl ⟨this, 1, .inr rfl⟩
    · refine gb_by (dt (by omega)) fun k hk => gb_by (dt ⟨?_, by omega⟩) (.inr ⟨k, List.replicate (k * 1) .undef, ?_, rfl, by simp, by omega⟩)
      · simp only [AObj.noLoc]
        exact noLocL_append (by rw [flat_strv]; exact strv_noLoc l) (noLocL_undefs _)
      · simp only [Nat.zero_add]

theorem clone_ok : EntOk Try.prog cloneE := by
  intro xs σ; simp only [cloneE]; split
  · rename_i es s t
    intro hc
    simp only [Bool.and_eq_true, hold_eq, decide_eq_true_eq] at hc
    obtain ⟨h1, h2, h3⟩ := hc
    have e := strv_of h2
    have := clone_c σ (es.map AVal.strOf) (by simpa using h3)
    rw [← e] at this
    exact ACall.args this (.cons (by have := wk_strv t h1 h2; rwa [← e] at this) (.refl _))
  · trivial

theorem ins_c (l : List Txt) (i : Nat) (x : Txt) (hi : i ≤ l.length) (hl : l.length ≤ 1000000) (j c : Nat) (hc : (strv l).length ≤ c) (hj : (strv l).length * 1 + j = c * 1) (hcm : c ≤ 9223372036854775807) :
    ACall Try.prog 36 [.arr (.out 0) 0 (strv l).length c, .int .i64 (i : Int), .slice [AVal.str x] 1 .ro] (Sto.one (.cells (flat (strv l) ++ List.replicate j .undef))) fun r τ =>
      Wk r (.slice (insC (strv l) i (AVal.str x)) 1 .ro) ∨ ∃ o cap tl, r = .arr (.out o) 0 (insC (strv l) i (AVal.str x)).length cap ∧ τ.obj o = some (.cells (flat (insC (strv l) i (AVal.str x)) ++ tl)) ∧ cap ≤ 9223372036854775807 := by
  have hn : (strv l).length = l.length := strv_length l
  have hfl : flat (insC (strv l) i (AVal.str x)) = insC (strv l) i (AVal.str x) := by
    have : insC (strv l) i (AVal.str x) = strv (insL l i x) := insC_map AVal.str l i x
    rw [this, flat_strv]
  have hil := insC_length (AVal.str x) (show i ≤ (strv l).length by omega)
  rw [hfl, hil, flat_strv]
  have hE : noLocL (strv l) = true := strv_noLoc l
  generalize hEE : strv l = E at *
  have hlc : (E ++ List.replicate j AVal.undef).length = E.length + j := by simp
  refine ins_i _ E.length c i x _ (.ofX [] rfl trivial ovOk) ?_
  have w1 : IntKind.i64.wrap ((E.length : Int) + ((1 : Nat) : Int)) = ((E.length + 1 : Nat) : Int) := by rw [wrap_i64 (by omega) (by omega)]; rfl
  have w2 : IntKind.i64.wrap (((E.length + 1 : Nat) : Int) - (i : Int)) = ((E.length + 1 - i : Nat) : Int) := by rw [wrap_i64 (by omega) (by omega)]; omega
  have w3 : IntKind.i64.wrap ((i : Int) + ((1 : Nat) : Int)) = ((i + 1 : Nat) : Int) := by rw [wrap_i64 (by omega) (by omega)]; rfl
  have m1 : min 1 (i + (E.length + 1 - i) - i) = 1 := by omega
  have m2 : min (E.length - i) (i + (E.length + 1 - i) - (i + 1)) = E.length - i := by omega
  have m3 : min (E.length - i) (E.length + 1 - (i + 1)) = E.length - i := by omega
  have m4 : min 1 (E.length + 1 - i) = 1 := by omega
  have m5 : min (E.length + 1 - i) (E.length + 1 - (i + 1)) = E.length - i := by omega
  have m6 : min (E.length - i) (E.length + 1 - i) = E.length - i := by omega
  simp only [hold_eq, w1, w2, w3, Int.toNat_natCast, Nat.sub_zero, Nat.mul_one, Nat.zero_add, m1, m2, m3, m4, m5, m6, List.take_take, one_set, flat_rep (show ((AVal.str []) : AVal).cells = [(AVal.str [])] from rfl)]
  refine gb_by (dt (by omega)) ?_
  refine brV_by (fun h => by cases h) fun _ => ?_
  refine brV_by (fun h => ?_) (fun h => ?_)
  · have he : i = E.length := by simp at h; omega
    subst he
    refine gb_by (dt (by omega)) (brV_by (fun h => ?_) (fun h => ?_))
    · have hroom : E.length + 1 ≤ c := by simpa using h
      refine gb_by (dtt (dt ⟨trivial, hroom, by omega, fun _ => rfl⟩)) ?_
      obtain ⟨tl, htl⟩ := ins_end (E := E) (J := List.replicate j AVal.undef) (AVal.str x) (by simp; omega)
      exact .inr ⟨0, c, tl, rfl, by rw [htl]; rfl, hcm⟩
    · refine gb_by (dt (by omega)) fun k hk => gb_by (dt ⟨?_, by omega⟩) ?_
      · exact noLocL_append (noLocL_append (noLocL_take _ (noLocL_append hE (noLocL_undefs _))) rfl) (noLocL_undefs _)
      · obtain ⟨tl, htl⟩ := ins_endG (E := E) (J := List.replicate j AVal.undef) (U := List.replicate k AVal.undef) (AVal.str x)
        exact .inr ⟨1, E.length + 1 + k, tl, rfl, by rw [htl]; rfl, by omega⟩
  · have hne : i < E.length := by simp at h; omega
    have hNL : noLocL (E ++ List.replicate j AVal.undef) = true := noLocL_append hE (noLocL_undefs _)
    refine brV_by (fun h => ?_) (fun h => ?_)
    · have hroom : c < E.length + 1 := by simp at h; omega
      refine gb_by (dt (by omega)) (gb_by (by simp; omega) (gb_by (dt (by omega)) fun k hk => ?_))
      have hU : noLocL (List.take i (E ++ List.replicate j AVal.undef) ++ List.replicate (E.length + 1 - i) (AVal.str []) ++ List.replicate k AVal.undef) = true :=
        noLocL_append (noLocL_append (noLocL_take _ hNL) (noLocL_rep rfl _)) (noLocL_undefs _)
      have hl0 : (List.take i (E ++ List.replicate j AVal.undef) ++ List.replicate (E.length + 1 - i) (AVal.str []) ++ List.replicate k AVal.undef).length = E.length + 1 + k := by simp; omega
      have hl1 : i + [AVal.str x].length ≤ (List.take i (E ++ List.replicate j AVal.undef) ++ List.replicate (E.length + 1 - i) (AVal.str []) ++ List.replicate k AVal.undef).length := by rw [hl0]; simp; omega
      refine gb_by (dt ⟨hU, by omega⟩) (gb_by (dt (by omega)) (gb_by (dtt (dt ⟨trivial, ?_, fun _ => noLocL_take _ rfl⟩)) (gb_by (dt (by omega)) (gb_by (dt (by omega)) (gb_by (dtt (dt ⟨?_, ?_, fun _ => noLocL_take _ (noLocL_drop _ hNL)⟩)) ?_)))))
      · rw [hl0]; omega
      · exact dt (by omega)
      · rw [setRange_length (by first | exact hl1 | simpa using hl1), hl0]; omega
      · obtain ⟨tl, htl⟩ := ins_mid (E := E) (J := List.replicate j AVal.undef) (U := List.replicate k AVal.undef) (AVal.str x) (AVal.str []) (show i ≤ E.length by omega)
        refine .inr ⟨1, i + (E.length + 1 - i) + k, tl, ?_, ?_, by omega⟩
        · congr 1; omega
        · simp only [List.take_take, Nat.min_self, List.take_succ_cons, List.take_zero] 
          rw [← htl]
          rfl
    · have hroom : E.length + 1 ≤ c := by simp at h; omega
      have hl1 : (((E ++ List.replicate j AVal.undef).drop i).take (E.length - i)).length = E.length - i := by simp; omega
      have h1 : i + 1 + (((E ++ List.replicate j AVal.undef).drop i).take (E.length - i)).length ≤ (E ++ List.replicate j AVal.undef).length := by rw [hl1, hlc]; omega
      refine gb_by (dt (by omega)) (gb_by (dt (by omega)) (gb_by (dt ⟨by omega, by rw [hlc]; omega⟩) (gb_by (dt (by omega)) (gb_by (dt (by omega)) (gb_by (dtt (dt ⟨dt (by rw [hlc]; omega), by rw [hlc]; omega, fun _ => ?_⟩)) (gb_by (dt (by omega)) (gb_by (dtt (dt ⟨trivial, ?_, fun _ => noLocL_take _ rfl⟩)) ?_)))))))
      · exact noLocL_take _ (noLocL_drop _ hNL)
      · rw [setRange_length h1, hlc]; omega
      · obtain ⟨tl, htl⟩ := ins_shift (E := E) (J := List.replicate j AVal.undef) (AVal.str x) (show i ≤ E.length by omega) (by simp; omega)
        exact .inr ⟨0, c, tl, rfl, by rw [← htl]; rfl, hcm⟩

theorem insC_of {es : List AVal} (h : es.all strIs = true) (i : Nat) (x : Txt) : insC es i (AVal.str x) = strv (insL (es.map AVal.strOf) i x) := by
  conv => lhs; rw [strv_of h]
  exact insC_map AVal.str _ i x
theorem delC_of {es : List AVal} (h : es.all strIs = true) (i : Nat) : delC es i = strv (delL (es.map AVal.strOf) i) := by
  conv => lhs; rw [strv_of h]
  exact delC_map AVal.str _ i

theorem ins_ok : EntOk Try.prog insE := by
  intro xs σ; simp only [insE]; split
  · rename_i k n i x
    split
    · rename_i es s g hk
      intro hc
      simp only [Bool.and_eq_true, hold_eq, decide_eq_true_eq] at hc
      obtain ⟨h1, h2, h3, rfl, h5, h6, h7⟩ := hc
      have h1 := Nat.eq_of_beq_eq_true h1
      have h2 := Nat.eq_of_beq_eq_true h2
      subst h1; subst h2
      obtain ⟨j, rfl⟩ : ∃ j : Nat, i = (j : Int) := ⟨i.toNat, by omega⟩
      simp only [Int.toNat_natCast]
      have e := strv_of h3
      have hw : WkL [.slice [AVal.str x] 1 .full] [.slice [AVal.str x] 1 .ro] := .cons (Wk.ro _ _ _) (.refl _)
      have hi := insC_of h3 j x
      refine ACall.openRow (es' := insC es j (AVal.str x)) hk (by rw [e]; exact strv_noOut 0 _) (by rw [e]; exact strv_noTok 0 _) rfl rfl (by rw [hi]; exact strv_noOut 0 _) (by rw [hi]; exact strv_noTok 0 _) (fun y hy => ?_) (fun he => ?_) (fun jj c c1 c2 c3 => ?_)
      · rw [hi] at hy
        obtain ⟨z, _, rfl⟩ := List.mem_map.1 hy
        rfl
      · subst he
        have hj : j = 0 := by simp at h6; omega
        subst hj
        refine ACall.args (insH_i 0 x _ (.ofX [] rfl trivial ovOk) ?_) (.cons (.refl _) (.cons (.refl _) hw))
        simp only [hold_eq]
        refine gb_by (dt (by omega)) (brV_by (fun h => by cases h) fun _ => brV_by (fun _ => ?_) (fun h => by simp at h))
        exact Wk.ro _ _ _
      · have := ins_c (es.map AVal.strOf) j x (by simp; omega) (by simpa using h7) jj c (by rw [← e]; exact c1) (by rw [← e]; exact c2) c3
        rw [← e] at this
        exact ACall.args this (.cons (.refl _) (.cons (.refl _) hw))
    · trivial
  · trivial

theorem del_c (l : List Txt) (i : Nat) (hi : i < l.length) (hl : l.length ≤ 1000000) (j c : Nat) (hc : (strv l).length ≤ c) (hj : (strv l).length * 1 + j = c * 1) (hcm : c ≤ 9223372036854775807) :
    ACall Try.prog 45 [.arr (.out 0) 0 (strv l).length c, .int .i64 (i : Int), .int .i64 ((i + 1 : Nat) : Int)] (Sto.one (.cells (flat (strv l) ++ List.replicate j .undef))) fun r τ =>
      Wk r (.slice (delC (strv l) i) 1 .ro) ∨ ∃ o cap tl, r = .arr (.out o) 0 (delC (strv l) i).length cap ∧ τ.obj o = some (.cells (flat (delC (strv l) i) ++ tl)) ∧ cap ≤ 9223372036854775807 := by
  have hn : (strv l).length = l.length := strv_length l
  have hfl : flat (delC (strv l) i) = delC (strv l) i := by
    have : delC (strv l) i = strv (delL l i) := delC_map AVal.str l i
    rw [this, flat_strv]
  rw [hfl, flat_strv]
  have hE : noLocL (strv l) = true := strv_noLoc l
  generalize hEE : strv l = E at *
  have hdl : (delC E i).length = E.length - 1 := by simp [delC]; omega
  rw [hdl]
  have hlc : (E ++ List.replicate j AVal.undef).length = E.length + j := by simp
  have hNL : noLocL (E ++ List.replicate j AVal.undef) = true := noLocL_append hE (noLocL_undefs _)
  refine del_i _ E.length c i (i + 1) _ (.of_none rfl) ?_
  simp only [hold_eq, Int.toNat_natCast, Nat.sub_zero, Nat.mul_one, Nat.zero_add, one_set, flat_rep (show ((AVal.str []) : AVal).cells = [(AVal.str [])] from rfl)]
  have hl1 : (((E ++ List.replicate j AVal.undef).drop (i + 1)).take (E.length - (i + 1))).length = E.length - (i + 1) := by simp; omega
  have h1 : i + (((E ++ List.replicate j AVal.undef).drop (i + 1)).take (E.length - (i + 1))).length ≤ (E ++ List.replicate j AVal.undef).length := by rw [hl1, hlc]; omega
  refine gb_by (dt (by omega)) (brV_by (fun h => by simp at h; omega) fun _ => ?_)
  refine gb_by (dt (by omega)) (gb_by (dt (by omega)) (gb_by (dtt (dt ⟨dt (by rw [hlc]; omega), by omega, by rw [hlc]; omega, fun _ => noLocL_take _ (noLocL_drop _ hNL)⟩)) (gb_by (dt (by omega)) (gb_by (dtt (dt ⟨by rw [setRange_length h1, hlc]; omega, trivial⟩)) ?_))))
  obtain ⟨tl, htl⟩ := del_cells (E := E) (J := List.replicate j AVal.undef) (Z := List.replicate (E.length - (i + (E.length - (i + 1)))) (AVal.str [])) (i := i) (by omega) (by simp; omega)
  refine .inr ⟨0, c, tl, ?_, by rw [← htl]; rfl, hcm⟩
  congr 1; omega

theorem del_ok : EntOk Try.prog delE := by
  intro xs σ; simp only [delE]; split
  · rename_i k n i j
    split
    · rename_i es s g hk
      intro hc
      simp only [Bool.and_eq_true, hold_eq, decide_eq_true_eq] at hc
      obtain ⟨h1, h2, h3, rfl, h5, h6, rfl, h7⟩ := hc
      have h1 := Nat.eq_of_beq_eq_true h1
      have h2 := Nat.eq_of_beq_eq_true h2
      subst h1; subst h2
      obtain ⟨j, rfl⟩ : ∃ j : Nat, i = (j : Int) := ⟨i.toNat, by omega⟩
      simp only [Int.toNat_natCast]
      have e := strv_of h3
      have hi := delC_of h3 j
      refine ACall.openRow (es' := delC es j) hk (by rw [e]; exact strv_noOut 0 _) (by rw [e]; exact strv_noTok 0 _) rfl rfl (by rw [hi]; exact strv_noOut 0 _) (by rw [hi]; exact strv_noTok 0 _) (fun y hy => ?_) (fun he => ?_) (fun jj c c1 c2 c3 => ?_)
      · rw [hi] at hy
        obtain ⟨z, _, rfl⟩ := List.mem_map.1 hy
        rfl
      · subst he; simp at h6; omega
      · have := del_c (es.map AVal.strOf) j (by simp; omega) (by simpa using h7) jj c (by rw [← e]; exact c1) (by rw [← e]; exact c2) c3
        rw [← e] at this
        exact this
    · trivial
  · trivial

theorem cloneI_c (σ : Sto) (l : List Int) (hl : l.length ≤ 1000000) : ACall Try.prog 42 [.slice (iv l) 1 .ro] σ fun r τ => r = .mrow σ.nobj (iv l).length ∧ τ = σ.pushRow (iv l) 1 := by
  have hn : (iv l).length = l.length := iv_length l
  refine ACall.closeRow (by omega) (fun e he => by obtain ⟨x, _, rfl⟩ := List.mem_map.1 he; rfl) ?_
  refine cloneI_i σ l _ (.of_none rfl) ?_
  simp only [hold_eq, true_and]
  intro b hb _
  refine brV_by (fun h => ?_) (fun h => ?_)
  · have hb1 : b = true := by simpa using h
    have : iv l = [] := List.isEmpty_iff.1 (hb hb1)
    exact .inl ⟨this, 0, .inl rfl⟩
  · refine brV_by (fun h => ?_) (fun h => ?_)
    · have : iv l = [] := List.eq_nil_of_length_eq_zero (by simpa using h)
      exact .inl ⟨this, 1, .inr rfl⟩
    · refine gb_by (dt (by omega)) fun k hk => gb_by (dt ⟨?_, by omega⟩) (.inr ⟨k, List.replicate (k * 1) .undef, ?_, rfl, by simp, by omega⟩)
      · simp only [AObj.noLoc]
        exact noLocL_append (by rw [flat_iv]; exact iv_noLoc l) (noLocL_undefs _)
      · simp only [Nat.zero_add]

theorem cloneI_ok : EntOk Try.prog cloneIE := by
  intro xs σ; simp only [cloneIE]; split
  · rename_i es s t
    intro hc
    simp only [Bool.and_eq_true, hold_eq, decide_eq_true_eq] at hc
    obtain ⟨h1, h2, h3⟩ := hc
    have e := iv_of h2
    have := cloneI_c σ (es.map AVal.intOf) (by simpa using h3)
    rw [← e] at this
    exact ACall.args this (.cons (by have := wk_iv t h1 h2; rwa [← e] at this) (.refl _))
  · trivial

theorem insI_c (l : List Int) (i : Nat) (x : Int) (hi : i ≤ l.length) (hl : l.length ≤ 1000000) (j c : Nat) (hc : (iv l).length ≤ c) (hj : (iv l).length * 1 + j = c * 1) (hcm : c ≤ 9223372036854775807) :
    ACall Try.prog 40 [.arr (.out 0) 0 (iv l).length c, .int .i64 (i : Int), .slice [(AVal.int .i64) x] 1 .ro] (Sto.one (.cells (flat (iv l) ++ List.replicate j .undef))) fun r τ =>
      Wk r (.slice (insC (iv l) i ((AVal.int .i64) x)) 1 .ro) ∨ ∃ o cap tl, r = .arr (.out o) 0 (insC (iv l) i ((AVal.int .i64) x)).length cap ∧ τ.obj o = some (.cells (flat (insC (iv l) i ((AVal.int .i64) x)) ++ tl)) ∧ cap ≤ 9223372036854775807 := by
  have hn : (iv l).length = l.length := iv_length l
  have hfl : flat (insC (iv l) i ((AVal.int .i64) x)) = insC (iv l) i ((AVal.int .i64) x) := by
    have : insC (iv l) i ((AVal.int .i64) x) = iv (insL l i x) := insC_map (AVal.int .i64) l i x
    rw [this, flat_iv]
  have hil := insC_length ((AVal.int .i64) x) (show i ≤ (iv l).length by omega)
  rw [hfl, hil, flat_iv]
  have hE : noLocL (iv l) = true := iv_noLoc l
  generalize hEE : iv l = E at *
  have hlc : (E ++ List.replicate j AVal.undef).length = E.length + j := by simp
  refine insI_i _ E.length c i x _ (.ofX [] rfl trivial ovOkI) ?_
  have w1 : IntKind.i64.wrap ((E.length : Int) + ((1 : Nat) : Int)) = ((E.length + 1 : Nat) : Int) := by rw [wrap_i64 (by omega) (by omega)]; rfl
  have w2 : IntKind.i64.wrap (((E.length + 1 : Nat) : Int) - (i : Int)) = ((E.length + 1 - i : Nat) : Int) := by rw [wrap_i64 (by omega) (by omega)]; omega
  have w3 : IntKind.i64.wrap ((i : Int) + ((1 : Nat) : Int)) = ((i + 1 : Nat) : Int) := by rw [wrap_i64 (by omega) (by omega)]; rfl
  have m1 : min 1 (i + (E.length + 1 - i) - i) = 1 := by omega
  have m2 : min (E.length - i) (i + (E.length + 1 - i) - (i + 1)) = E.length - i := by omega
  have m3 : min (E.length - i) (E.length + 1 - (i + 1)) = E.length - i := by omega
  have m4 : min 1 (E.length + 1 - i) = 1 := by omega
  have m5 : min (E.length + 1 - i) (E.length + 1 - (i + 1)) = E.length - i := by omega
  have m6 : min (E.length - i) (E.length + 1 - i) = E.length - i := by omega
  simp only [hold_eq, w1, w2, w3, Int.toNat_natCast, Nat.sub_zero, Nat.mul_one, Nat.zero_add, m1, m2, m3, m4, m5, m6, List.take_take, one_set, flat_rep (show ((AVal.int .i64 0) : AVal).cells = [(AVal.int .i64 0)] from rfl)]
  refine gb_by (dt (by omega)) ?_
  refine brV_by (fun h => by cases h) fun _ => ?_
  refine brV_by (fun h => ?_) (fun h => ?_)
  · have he : i = E.length := by simp at h; omega
    subst he
    refine gb_by (dt (by omega)) (brV_by (fun h => ?_) (fun h => ?_))
    · have hroom : E.length + 1 ≤ c := by simpa using h
      refine gb_by (dtt (dt ⟨trivial, hroom, by omega, fun _ => rfl⟩)) ?_
      obtain ⟨tl, htl⟩ := ins_end (E := E) (J := List.replicate j AVal.undef) ((AVal.int .i64) x) (by simp; omega)
      exact .inr ⟨0, c, tl, rfl, by rw [htl]; rfl, hcm⟩
    · refine gb_by (dt (by omega)) fun k hk => gb_by (dt ⟨?_, by omega⟩) ?_
      · exact noLocL_append (noLocL_append (noLocL_take _ (noLocL_append hE (noLocL_undefs _))) rfl) (noLocL_undefs _)
      · obtain ⟨tl, htl⟩ := ins_endG (E := E) (J := List.replicate j AVal.undef) (U := List.replicate k AVal.undef) ((AVal.int .i64) x)
        exact .inr ⟨1, E.length + 1 + k, tl, rfl, by rw [htl]; rfl, by omega⟩
  · have hne : i < E.length := by simp at h; omega
    have hNL : noLocL (E ++ List.replicate j AVal.undef) = true := noLocL_append hE (noLocL_undefs _)
    refine brV_by (fun h => ?_) (fun h => ?_)
    · have hroom : c < E.length + 1 := by simp at h; omega
      refine gb_by (dt (by omega)) (gb_by (by simp; omega) (gb_by (dt (by omega)) fun k hk => ?_))
      have hU : noLocL (List.take i (E ++ List.replicate j AVal.undef) ++ List.replicate (E.length + 1 - i) (AVal.int .i64 0) ++ List.replicate k AVal.undef) = true :=
        noLocL_append (noLocL_append (noLocL_take _ hNL) (noLocL_rep rfl _)) (noLocL_undefs _)
      have hl0 : (List.take i (E ++ List.replicate j AVal.undef) ++ List.replicate (E.length + 1 - i) (AVal.int .i64 0) ++ List.replicate k AVal.undef).length = E.length + 1 + k := by simp; omega
      have hl1 : i + [(AVal.int .i64) x].length ≤ (List.take i (E ++ List.replicate j AVal.undef) ++ List.replicate (E.length + 1 - i) (AVal.int .i64 0) ++ List.replicate k AVal.undef).length := by rw [hl0]; simp; omega
      refine gb_by (dt ⟨hU, by omega⟩) (gb_by (dt (by omega)) (gb_by (dtt (dt ⟨trivial, ?_, fun _ => noLocL_take _ rfl⟩)) (gb_by (dt (by omega)) (gb_by (dt (by omega)) (gb_by (dtt (dt ⟨?_, ?_, fun _ => noLocL_take _ (noLocL_drop _ hNL)⟩)) ?_)))))
      · rw [hl0]; omega
      · exact dt (by omega)
      · rw [setRange_length (by first | exact hl1 | simpa using hl1), hl0]; omega
      · obtain ⟨tl, htl⟩ := ins_mid (E := E) (J := List.replicate j AVal.undef) (U := List.replicate k AVal.undef) ((AVal.int .i64) x) (AVal.int .i64 0) (show i ≤ E.length by omega)
        refine .inr ⟨1, i + (E.length + 1 - i) + k, tl, ?_, ?_, by omega⟩
        · congr 1; omega
        · simp only [List.take_take, Nat.min_self, List.take_succ_cons, List.take_zero] 
          rw [← htl]
          rfl
    · have hroom : E.length + 1 ≤ c := by simp at h; omega
      have hl1 : (((E ++ List.replicate j AVal.undef).drop i).take (E.length - i)).length = E.length - i := by simp; omega
      have h1 : i + 1 + (((E ++ List.replicate j AVal.undef).drop i).take (E.length - i)).length ≤ (E ++ List.replicate j AVal.undef).length := by rw [hl1, hlc]; omega
      refine gb_by (dt (by omega)) (gb_by (dt (by omega)) (gb_by (dt ⟨by omega, by rw [hlc]; omega⟩) (gb_by (dt (by omega)) (gb_by (dt (by omega)) (gb_by (dtt (dt ⟨dt (by rw [hlc]; omega), by rw [hlc]; omega, fun _ => ?_⟩)) (gb_by (dt (by omega)) (gb_by (dtt (dt ⟨trivial, ?_, fun _ => noLocL_take _ rfl⟩)) ?_)))))))
      · exact noLocL_take _ (noLocL_drop _ hNL)
      · rw [setRange_length h1, hlc]; omega
      · obtain ⟨tl, htl⟩ := ins_shift (E := E) (J := List.replicate j AVal.undef) ((AVal.int .i64) x) (show i ≤ E.length by omega) (by simp; omega)
        exact .inr ⟨0, c, tl, rfl, by rw [← htl]; rfl, hcm⟩

theorem insC_ofI {es : List AVal} (h : es.all isI64 = true) (i : Nat) (x : Int) : insC es i ((AVal.int .i64) x) = iv (insL (es.map AVal.intOf) i x) := by
  conv => lhs; rw [iv_of h]
  exact insC_map (AVal.int .i64) _ i x
theorem delC_ofI {es : List AVal} (h : es.all isI64 = true) (i : Nat) : delC es i = iv (delL (es.map AVal.intOf) i) := by
  conv => lhs; rw [iv_of h]
  exact delC_map (AVal.int .i64) _ i

theorem insI_ok : EntOk Try.prog insIE := by
  intro xs σ; simp only [insIE]; split
  · rename_i k n i x
    split
    · rename_i es s g hk
      intro hc
      simp only [Bool.and_eq_true, hold_eq, decide_eq_true_eq] at hc
      obtain ⟨h1, h2, h3, rfl, h5, h6, h7⟩ := hc
      have h1 := Nat.eq_of_beq_eq_true h1
      have h2 := Nat.eq_of_beq_eq_true h2
      subst h1; subst h2
      obtain ⟨j, rfl⟩ : ∃ j : Nat, i = (j : Int) := ⟨i.toNat, by omega⟩
      simp only [Int.toNat_natCast]
      have e := iv_of h3
      have hw : WkL [.slice [(AVal.int .i64) x] 1 .full] [.slice [(AVal.int .i64) x] 1 .ro] := .cons (Wk.ro _ _ _) (.refl _)
      have hi := insC_ofI h3 j x
      refine ACall.openRow (es' := insC es j ((AVal.int .i64) x)) hk (by rw [e]; exact iv_noOut 0 _) (by rw [e]; exact iv_noTok 0 _) rfl rfl (by rw [hi]; exact iv_noOut 0 _) (by rw [hi]; exact iv_noTok 0 _) (fun y hy => ?_) (fun he => ?_) (fun jj c c1 c2 c3 => ?_)
      · rw [hi] at hy
        obtain ⟨z, _, rfl⟩ := List.mem_map.1 hy
        rfl
      · subst he
        have hj : j = 0 := by simp at h6; omega
        subst hj
        refine ACall.args (insIH_i 0 x _ (.ofX [] rfl trivial ovOkI) ?_) (.cons (.refl _) (.cons (.refl _) hw))
        simp only [hold_eq]
        refine gb_by (dt (by omega)) (brV_by (fun h => by cases h) fun _ => brV_by (fun _ => ?_) (fun h => by simp at h))
        exact Wk.ro _ _ _
      · have := insI_c (es.map AVal.intOf) j x (by simp; omega) (by simpa using h7) jj c (by rw [← e]; exact c1) (by rw [← e]; exact c2) c3
        rw [← e] at this
        exact ACall.args this (.cons (.refl _) (.cons (.refl _) hw))
    · trivial
  · trivial

theorem delI_c (l : List Int) (i : Nat) (hi : i < l.length) (hl : l.length ≤ 1000000) (j c : Nat) (hc : (iv l).length ≤ c) (hj : (iv l).length * 1 + j = c * 1) (hcm : c ≤ 9223372036854775807) :
    ACall Try.prog 46 [.arr (.out 0) 0 (iv l).length c, .int .i64 (i : Int), .int .i64 ((i + 1 : Nat) : Int)] (Sto.one (.cells (flat (iv l) ++ List.replicate j .undef))) fun r τ =>
      Wk r (.slice (delC (iv l) i) 1 .ro) ∨ ∃ o cap tl, r = .arr (.out o) 0 (delC (iv l) i).length cap ∧ τ.obj o = some (.cells (flat (delC (iv l) i) ++ tl)) ∧ cap ≤ 9223372036854775807 := by
  have hn : (iv l).length = l.length := iv_length l
  have hfl : flat (delC (iv l) i) = delC (iv l) i := by
    have : delC (iv l) i = iv (delL l i) := delC_map (AVal.int .i64) l i
    rw [this, flat_iv]
  rw [hfl, flat_iv]
  have hE : noLocL (iv l) = true := iv_noLoc l
  generalize hEE : iv l = E at *
  have hdl : (delC E i).length = E.length - 1 := by simp [delC]; omega
  rw [hdl]
  have hlc : (E ++ List.replicate j AVal.undef).length = E.length + j := by simp
  have hNL : noLocL (E ++ List.replicate j AVal.undef) = true := noLocL_append hE (noLocL_undefs _)
  refine delI_i _ E.length c i (i + 1) _ (.of_none rfl) ?_
  simp only [hold_eq, Int.toNat_natCast, Nat.sub_zero, Nat.mul_one, Nat.zero_add, one_set, flat_rep (show ((AVal.int .i64 0) : AVal).cells = [(AVal.int .i64 0)] from rfl)]
  have hl1 : (((E ++ List.replicate j AVal.undef).drop (i + 1)).take (E.length - (i + 1))).length = E.length - (i + 1) := by simp; omega
  have h1 : i + (((E ++ List.replicate j AVal.undef).drop (i + 1)).take (E.length - (i + 1))).length ≤ (E ++ List.replicate j AVal.undef).length := by rw [hl1, hlc]; omega
  refine gb_by (dt (by omega)) (brV_by (fun h => by simp at h; omega) fun _ => ?_)
  refine gb_by (dt (by omega)) (gb_by (dt (by omega)) (gb_by (dtt (dt ⟨dt (by rw [hlc]; omega), by omega, by rw [hlc]; omega, fun _ => noLocL_take _ (noLocL_drop _ hNL)⟩)) (gb_by (dt (by omega)) (gb_by (dtt (dt ⟨by rw [setRange_length h1, hlc]; omega, trivial⟩)) ?_))))
  obtain ⟨tl, htl⟩ := del_cells (E := E) (J := List.replicate j AVal.undef) (Z := List.replicate (E.length - (i + (E.length - (i + 1)))) (AVal.int .i64 0)) (i := i) (by omega) (by simp; omega)
  refine .inr ⟨0, c, tl, ?_, by rw [← htl]; rfl, hcm⟩
  congr 1; omega

theorem delI_ok : EntOk Try.prog delIE := by
  intro xs σ; simp only [delIE]; split
  · rename_i k n i j
    split
    · rename_i es s g hk
      intro hc
      simp only [Bool.and_eq_true, hold_eq, decide_eq_true_eq] at hc
      obtain ⟨h1, h2, h3, rfl, h5, h6, rfl, h7⟩ := hc
      have h1 := Nat.eq_of_beq_eq_true h1
      have h2 := Nat.eq_of_beq_eq_true h2
      subst h1; subst h2
      obtain ⟨j, rfl⟩ : ∃ j : Nat, i = (j : Int) := ⟨i.toNat, by omega⟩
      simp only [Int.toNat_natCast]
      have e := iv_of h3
      have hi := delC_ofI h3 j
      refine ACall.openRow (es' := delC es j) hk (by rw [e]; exact iv_noOut 0 _) (by rw [e]; exact iv_noTok 0 _) rfl rfl (by rw [hi]; exact iv_noOut 0 _) (by rw [hi]; exact iv_noTok 0 _) (fun y hy => ?_) (fun he => ?_) (fun jj c c1 c2 c3 => ?_)
      · rw [hi] at hy
        obtain ⟨z, _, rfl⟩ := List.mem_map.1 hy
        rfl
      · subst he; simp at h6; omega
      · have := delI_c (es.map AVal.intOf) j (by simp; omega) (by simpa using h7) jj c (by rw [← e]; exact c1) (by rw [← e]; exact c2) c3
        rw [← e] at this
        exact this
    · trivial
  · trivial
end Go.Proofs.Ytlfnmhfmikomkaa
end

section
set_option maxRecDepth 100000
set_option maxHeartbeats 0
set_option linter.unusedVariables false
namespace Go.Proofs.Ytlfnmhfmikomkaa
open Go.AL Go.Proofs
noncomputable def cOwn : Cfg := { keep := [0, 1, 2, 3, 4, 6, 7, 8, 24], cut := [], out := [6, 7], orc := ofList [leafE, findE, cloneE, cloneIE] }
noncomputable def cInsert : Cfg := { keep := [0, 1, 2, 3, 4, 6, 7, 8, 9, 10, 11, 12, 13, 14, 30, 35, 40, 53, 60], cut := [(27, [2, 3, 4, 6, 12], [3, 4, 6]), (30, [2, 3, 4, 6, 12], [3, 4, 6])], out := [6], orc := ofList [ownE, roE bsE, insOrE, insIE, roE containsIE, roE atE, cloneSE] }
noncomputable def cRemove : Cfg := { keep := [0, 1, 2, 3, 4, 6, 7, 8, 9, 10, 11, 12, 28, 33, 53], cut := [(20, [2, 3, 4, 6], [3, 4, 6])], out := [6], orc := ofList [ownE, roE bsE, delOrE, delIE, roE atE] }
noncomputable def code_11_ : Code := (Try.f11.body).getD .skip
noncomputable def code_18_ : Code := (Try.f18.body).getD .skip
noncomputable def code_34_ : Code := (Try.f34.body).getD .skip
noncomputable def code_18_1_1_1_1_1_1 : Code := codeAt code_18_ [1, 1, 1, 1, 1, 1]
noncomputable def code_11_1_1_1_1_1_1_1_1 : Code := codeAt code_11_ [1, 1, 1, 1, 1, 1, 1, 1]
noncomputable def code_11_1_1_1_1_1_1_1_0_0_0 : Code := codeAt code_11_ [1, 1, 1, 1, 1, 1, 1, 0, 0, 0]
theorem own_r (c : List AVal) (r : Root) (l : Lf) (s : Txt) (Q : AVal → Sto → Prop) : vc Try.prog cOwn code_34_ (endK Try.prog Try.f34.results.toList Q) (St.start Try.f34.ntmps [rootV r, lfV l, .str s] (Sto.push Sto.empty (.cells c))) =
  (gb (lfG (AVal.agg [AVal.int IntKind.i64 (Prod.fst l), AVal.slice (strv (Prod.fst (Prod.snd l))) 1 Tag.ro, AVal.bool (Prod.snd (Prod.snd l))])) (brV (!hold (lfB (Prod.fst l, List.map AVal.strOf (strv (Prod.fst (Prod.snd l))), Prod.snd (Prod.snd l)))) false (∀ (y : Int), y = findN (List.map AVal.strOf (strv (Prod.fst r)), List.map AVal.intOf (iv (Prod.snd r))) s → gb (rootG (AVal.agg [AVal.slice (strv (Prod.fst r)) 1 Tag.ro, AVal.slice (iv (Prod.snd r)) 1 Tag.ro])) (brV (hold (y != Prod.fst l)) false (brV (hold (Prod.fst l == (0 : Int))) true (Q (AVal.tuple [AVal.agg [AVal.slice [] 0 Tag.nil, AVal.slice [] 0 Tag.nil], AVal.agg [AVal.int IntKind.i64 (0 : Int), AVal.slice [] 0 Tag.nil, AVal.bool false], AVal.int IntKind.i64 (100 : Int)]) (Sto.set (Sto.set (Sto.push (Sto.push (Sto.push Sto.empty (AObj.cells c)) (AObj.cells [AVal.slice [] 0 Tag.nil, AVal.slice [] 0 Tag.nil])) (AObj.cells [AVal.int IntKind.i64 (0 : Int), AVal.slice [] 0 Tag.nil, AVal.bool false])) 1 (AObj.cells [AVal.slice [] 0 Tag.nil, AVal.slice [] 0 Tag.nil])) 2 (AObj.cells [AVal.int IntKind.i64 (0 : Int), AVal.slice [] 0 Tag.nil, AVal.bool false]))) (gb (List.all (strv (Prod.fst r)) strIs && hold (decide (List.length (strv (Prod.fst r)) ≤ 1000000))) (gb (List.all (iv (Prod.snd r)) isI64 && hold (decide (List.length (iv (Prod.snd r)) ≤ 1000000))) (gb (List.all (strv (Prod.fst (Prod.snd l))) strIs && hold (decide (List.length (strv (Prod.fst (Prod.snd l))) ≤ 1000000))) (Q (AVal.tuple [AVal.agg [AVal.mrow 3 (List.length (strv (Prod.fst r))), AVal.mrow 5 (List.length (iv (Prod.snd r)))], AVal.agg [AVal.int IntKind.i64 (Prod.fst l), AVal.mrow 7 (List.length (strv (Prod.fst (Prod.snd l)))), AVal.bool (Prod.snd (Prod.snd l))], AVal.int IntKind.i64 (0 : Int)]) (Sto.set (Sto.set (Sto.pushRow (Sto.pushRow (Sto.pushRow (Sto.push (Sto.push (Sto.push Sto.empty (AObj.cells c)) (AObj.cells [AVal.slice [] 0 Tag.nil, AVal.slice [] 0 Tag.nil])) (AObj.cells [AVal.int IntKind.i64 (0 : Int), AVal.slice [] 0 Tag.nil, AVal.bool false])) (strv (Prod.fst r)) 1) (iv (Prod.snd r)) 1) (strv (Prod.fst (Prod.snd l))) 1) 1 (AObj.cells [AVal.mrow 3 (List.length (strv (Prod.fst r))), AVal.mrow 5 (List.length (iv (Prod.snd r)))])) 2 (AObj.cells [AVal.int IntKind.i64 (Prod.fst l), AVal.mrow 7 (List.length (strv (Prod.fst (Prod.snd l)))), AVal.bool (Prod.snd (Prod.snd l))]))))))) (Q (AVal.tuple [AVal.agg [AVal.slice [] 0 Tag.nil, AVal.slice [] 0 Tag.nil], AVal.agg [AVal.int IntKind.i64 (0 : Int), AVal.slice [] 0 Tag.nil, AVal.bool false], AVal.int IntKind.i64 (100 : Int)]) (Sto.set (Sto.set (Sto.push (Sto.push (Sto.push Sto.empty (AObj.cells c)) (AObj.cells [AVal.slice [] 0 Tag.nil, AVal.slice [] 0 Tag.nil])) (AObj.cells [AVal.int IntKind.i64 (0 : Int), AVal.slice [] 0 Tag.nil, AVal.bool false])) 1 (AObj.cells [AVal.slice [] 0 Tag.nil, AVal.slice [] 0 Tag.nil])) 2 (AObj.cells [AVal.int IntKind.i64 (0 : Int), AVal.slice [] 0 Tag.nil, AVal.bool false]))))) (Q (AVal.tuple [AVal.agg [AVal.slice [] 0 Tag.nil, AVal.slice [] 0 Tag.nil], AVal.agg [AVal.int IntKind.i64 (0 : Int), AVal.slice [] 0 Tag.nil, AVal.bool false], AVal.int IntKind.i64 (100 : Int)]) (Sto.set (Sto.set (Sto.push (Sto.push (Sto.push Sto.empty (AObj.cells c)) (AObj.cells [AVal.slice [] 0 Tag.nil, AVal.slice [] 0 Tag.nil])) (AObj.cells [AVal.int IntKind.i64 (0 : Int), AVal.slice [] 0 Tag.nil, AVal.bool false])) 1 (AObj.cells [AVal.slice [] 0 Tag.nil, AVal.slice [] 0 Tag.nil])) 2 (AObj.cells [AVal.int IntKind.i64 (0 : Int), AVal.slice [] 0 Tag.nil, AVal.bool false]))))) := by kernel_rfl
theorem own_i (c : List AVal) (r : Root) (l : Lf) (s : Txt) (Q : AVal → Sto → Prop) (ho : OrcOk Try.prog cOwn) (h : gb (lfG (AVal.agg [AVal.int IntKind.i64 (Prod.fst l), AVal.slice (strv (Prod.fst (Prod.snd l))) 1 Tag.ro, AVal.bool (Prod.snd (Prod.snd l))])) (brV (!hold (lfB (Prod.fst l, List.map AVal.strOf (strv (Prod.fst (Prod.snd l))), Prod.snd (Prod.snd l)))) false (∀ (y : Int), y = findN (List.map AVal.strOf (strv (Prod.fst r)), List.map AVal.intOf (iv (Prod.snd r))) s → gb (rootG (AVal.agg [AVal.slice (strv (Prod.fst r)) 1 Tag.ro, AVal.slice (iv (Prod.snd r)) 1 Tag.ro])) (brV (hold (y != Prod.fst l)) false (brV (hold (Prod.fst l == (0 : Int))) true (Q (AVal.tuple [AVal.agg [AVal.slice [] 0 Tag.nil, AVal.slice [] 0 Tag.nil], AVal.agg [AVal.int IntKind.i64 (0 : Int), AVal.slice [] 0 Tag.nil, AVal.bool false], AVal.int IntKind.i64 (100 : Int)]) (Sto.set (Sto.set (Sto.push (Sto.push (Sto.push Sto.empty (AObj.cells c)) (AObj.cells [AVal.slice [] 0 Tag.nil, AVal.slice [] 0 Tag.nil])) (AObj.cells [AVal.int IntKind.i64 (0 : Int), AVal.slice [] 0 Tag.nil, AVal.bool false])) 1 (AObj.cells [AVal.slice [] 0 Tag.nil, AVal.slice [] 0 Tag.nil])) 2 (AObj.cells [AVal.int IntKind.i64 (0 : Int), AVal.slice [] 0 Tag.nil, AVal.bool false]))) (gb (List.all (strv (Prod.fst r)) strIs && hold (decide (List.length (strv (Prod.fst r)) ≤ 1000000))) (gb (List.all (iv (Prod.snd r)) isI64 && hold (decide (List.length (iv (Prod.snd r)) ≤ 1000000))) (gb (List.all (strv (Prod.fst (Prod.snd l))) strIs && hold (decide (List.length (strv (Prod.fst (Prod.snd l))) ≤ 1000000))) (Q (AVal.tuple [AVal.agg [AVal.mrow 3 (List.length (strv (Prod.fst r))), AVal.mrow 5 (List.length (iv (Prod.snd r)))], AVal.agg [AVal.int IntKind.i64 (Prod.fst l), AVal.mrow 7 (List.length (strv (Prod.fst (Prod.snd l)))), AVal.bool (Prod.snd (Prod.snd l))], AVal.int IntKind.i64 (0 : Int)]) (Sto.set (Sto.set (Sto.pushRow (Sto.pushRow (Sto.pushRow (Sto.push (Sto.push (Sto.push Sto.empty (AObj.cells c)) (AObj.cells [AVal.slice [] 0 Tag.nil, AVal.slice [] 0 Tag.nil])) (AObj.cells [AVal.int IntKind.i64 (0 : Int), AVal.slice [] 0 Tag.nil, AVal.bool false])) (strv (Prod.fst r)) 1) (iv (Prod.snd r)) 1) (strv (Prod.fst (Prod.snd l))) 1) 1 (AObj.cells [AVal.mrow 3 (List.length (strv (Prod.fst r))), AVal.mrow 5 (List.length (iv (Prod.snd r)))])) 2 (AObj.cells [AVal.int IntKind.i64 (Prod.fst l), AVal.mrow 7 (List.length (strv (Prod.fst (Prod.snd l)))), AVal.bool (Prod.snd (Prod.snd l))]))))))) (Q (AVal.tuple [AVal.agg [AVal.slice [] 0 Tag.nil, AVal.slice [] 0 Tag.nil], AVal.agg [AVal.int IntKind.i64 (0 : Int), AVal.slice [] 0 Tag.nil, AVal.bool false], AVal.int IntKind.i64 (100 : Int)]) (Sto.set (Sto.set (Sto.push (Sto.push (Sto.push Sto.empty (AObj.cells c)) (AObj.cells [AVal.slice [] 0 Tag.nil, AVal.slice [] 0 Tag.nil])) (AObj.cells [AVal.int IntKind.i64 (0 : Int), AVal.slice [] 0 Tag.nil, AVal.bool false])) 1 (AObj.cells [AVal.slice [] 0 Tag.nil, AVal.slice [] 0 Tag.nil])) 2 (AObj.cells [AVal.int IntKind.i64 (0 : Int), AVal.slice [] 0 Tag.nil, AVal.bool false]))))) (Q (AVal.tuple [AVal.agg [AVal.slice [] 0 Tag.nil, AVal.slice [] 0 Tag.nil], AVal.agg [AVal.int IntKind.i64 (0 : Int), AVal.slice [] 0 Tag.nil, AVal.bool false], AVal.int IntKind.i64 (100 : Int)]) (Sto.set (Sto.set (Sto.push (Sto.push (Sto.push Sto.empty (AObj.cells c)) (AObj.cells [AVal.slice [] 0 Tag.nil, AVal.slice [] 0 Tag.nil])) (AObj.cells [AVal.int IntKind.i64 (0 : Int), AVal.slice [] 0 Tag.nil, AVal.bool false])) 1 (AObj.cells [AVal.slice [] 0 Tag.nil, AVal.slice [] 0 Tag.nil])) 2 (AObj.cells [AVal.int IntKind.i64 (0 : Int), AVal.slice [] 0 Tag.nil, AVal.bool false]))))) : ACall Try.prog 34 [rootV r, lfV l, .str s] (Sto.push Sto.empty (.cells c)) Q :=
  ACall.intro hmix Try.func34 (c := code_34_) (by kernel_rfl) cOwn ho (Nat.le_of_ble_eq_true (by kernel_rfl)) (by rw [own_r]; exact h)
theorem insert_r (r : Root) (l : Lf) (s : Txt) (Q : AVal → Sto → Prop) : vc Try.prog cInsert code_11_ (endK Try.prog Try.f11.results.toList Q) (St.start Try.f11.ntmps [rootV r, lfV l, .str s] (Sto.empty)) =
  (brV (hold (ownB (List.map AVal.strOf (strv (Prod.fst r)), List.map AVal.intOf (iv (Prod.snd r))) (Prod.fst l, List.map AVal.strOf (strv (Prod.fst (Prod.snd l))), Prod.snd (Prod.snd l)) s)) true (gb (rootM (AVal.agg [AVal.slice (strv (Prod.fst r)) 1 Tag.ro, AVal.slice (iv (Prod.snd r)) 1 Tag.ro]) && (lfM (AVal.agg [AVal.int IntKind.i64 (Prod.fst l), AVal.slice (strv (Prod.fst (Prod.snd l))) 1 Tag.ro, AVal.bool (Prod.snd (Prod.snd l))]) && isR (Sto.push Sto.empty (AObj.cells [AVal.slice [] 0 Tag.nil, AVal.slice [] 0 Tag.nil])))) (∀ (y : Nat), y = posN (List.map AVal.strOf (strv (List.map AVal.strOf (strv (Prod.fst (Prod.snd l)))))) s → ∀ (y_1 : Bool), y_1 = List.contains (List.map AVal.strOf (strv (List.map AVal.strOf (strv (Prod.fst (Prod.snd l)))))) s → gb (Nat.beq (7 + 1) (7 + 1) && (hold (decide (List.length (strv (List.map AVal.strOf (strv (Prod.fst (Prod.snd l))))) = List.length (strv (List.map AVal.strOf (strv (Prod.fst (Prod.snd l))))))) && (noOutL 0 (strv (List.map AVal.strOf (strv (Prod.fst (Prod.snd l))))) && noTokL 0 (strv (List.map AVal.strOf (strv (Prod.fst (Prod.snd l))))))) && true && (List.all (strv (List.map AVal.strOf (strv (Prod.fst (Prod.snd l))))) strIs && (hold (riseL (List.map AVal.strOf (strv (List.map AVal.strOf (strv (Prod.fst (Prod.snd l))))))) && lenOk (List.length (strv (List.map AVal.strOf (strv (Prod.fst (Prod.snd l))))))) && true)) (brV (hold false) true (Q (AVal.tuple [AVal.agg [AVal.slice [] 0 Tag.nil, AVal.slice [] 0 Tag.nil], AVal.slice [] 0 Tag.nil, AVal.int IntKind.i64 (0 : Int)]) (Sto.set (Sto.set (Sto.set (Sto.pushRow (Sto.pushRow (Sto.pushRow (Sto.push (Sto.push (Sto.push Sto.empty (AObj.cells [AVal.slice [] 0 Tag.nil, AVal.slice [] 0 Tag.nil])) (AObj.cells [AVal.slice [] 0 Tag.nil, AVal.slice [] 0 Tag.nil])) (AObj.cells [AVal.int IntKind.i64 (0 : Int), AVal.slice [] 0 Tag.nil, AVal.bool false])) (strv (List.map AVal.strOf (strv (Prod.fst r)))) 1) (iv (List.map AVal.intOf (iv (Prod.snd r)))) 1) (strv (List.map AVal.strOf (strv (Prod.fst (Prod.snd l))))) 1) 1 (AObj.cells [AVal.mrow 3 (List.length (strv (List.map AVal.strOf (strv (Prod.fst r))))), AVal.mrow 5 (List.length (iv (List.map AVal.intOf (iv (Prod.snd r)))))])) 2 (AObj.cells [AVal.int IntKind.i64 (Prod.fst l), AVal.mrow 7 (List.length (strv (List.map AVal.strOf (strv (Prod.fst (Prod.snd l)))))), AVal.bool false])) 0 (AObj.cells [AVal.slice [] 0 Tag.nil, AVal.slice [] 0 Tag.nil]))) (brV (hold (decide ((600 : Int) < (↑(List.length s) : Int)))) true (Q (AVal.tuple [AVal.agg [AVal.slice [] 0 Tag.nil, AVal.slice [] 0 Tag.nil], AVal.slice [] 0 Tag.nil, AVal.int IntKind.i64 (82 : Int)]) (Sto.set (Sto.set (Sto.set (Sto.pushRow (Sto.pushRow (Sto.pushRow (Sto.push (Sto.push (Sto.push Sto.empty (AObj.cells [AVal.slice [] 0 Tag.nil, AVal.slice [] 0 Tag.nil])) (AObj.cells [AVal.slice [] 0 Tag.nil, AVal.slice [] 0 Tag.nil])) (AObj.cells [AVal.int IntKind.i64 (0 : Int), AVal.slice [] 0 Tag.nil, AVal.bool false])) (strv (List.map AVal.strOf (strv (Prod.fst r)))) 1) (iv (List.map AVal.intOf (iv (Prod.snd r)))) 1) (strv (List.map AVal.strOf (strv (Prod.fst (Prod.snd l))))) 1) 1 (AObj.cells [AVal.mrow 3 (List.length (strv (List.map AVal.strOf (strv (Prod.fst r))))), AVal.mrow 5 (List.length (iv (List.map AVal.intOf (iv (Prod.snd r)))))])) 2 (AObj.cells [AVal.int IntKind.i64 (Prod.fst l), AVal.mrow 7 (List.length (strv (List.map AVal.strOf (strv (Prod.fst (Prod.snd l)))))), AVal.bool false])) 0 (AObj.cells [AVal.slice [] 0 Tag.nil, AVal.slice [] 0 Tag.nil]))) (brV (hold y_1) true (Q (AVal.tuple [AVal.agg [AVal.slice [] 0 Tag.nil, AVal.slice [] 0 Tag.nil], AVal.slice [] 0 Tag.nil, AVal.int IntKind.i64 (31 : Int)]) (Sto.set (Sto.set (Sto.set (Sto.pushRow (Sto.pushRow (Sto.pushRow (Sto.push (Sto.push (Sto.push Sto.empty (AObj.cells [AVal.slice [] 0 Tag.nil, AVal.slice [] 0 Tag.nil])) (AObj.cells [AVal.slice [] 0 Tag.nil, AVal.slice [] 0 Tag.nil])) (AObj.cells [AVal.int IntKind.i64 (0 : Int), AVal.slice [] 0 Tag.nil, AVal.bool false])) (strv (List.map AVal.strOf (strv (Prod.fst r)))) 1) (iv (List.map AVal.intOf (iv (Prod.snd r)))) 1) (strv (List.map AVal.strOf (strv (Prod.fst (Prod.snd l))))) 1) 1 (AObj.cells [AVal.mrow 3 (List.length (strv (List.map AVal.strOf (strv (Prod.fst r))))), AVal.mrow 5 (List.length (iv (List.map AVal.intOf (iv (Prod.snd r)))))])) 2 (AObj.cells [AVal.int IntKind.i64 (Prod.fst l), AVal.mrow 7 (List.length (strv (List.map AVal.strOf (strv (Prod.fst (Prod.snd l)))))), AVal.bool false])) 0 (AObj.cells [AVal.slice [] 0 Tag.nil, AVal.slice [] 0 Tag.nil]))) (gb (Nat.beq (7 + 1) (7 + 1) && (List.all (strv (List.map AVal.strOf (strv (Prod.fst (Prod.snd l))))) strIs && hold (decide (List.length (strv (List.map AVal.strOf (strv (Prod.fst (Prod.snd l))))) = List.length (strv (List.map AVal.strOf (strv (Prod.fst (Prod.snd l))))) ∧ (0 : Int) ≤ (↑y : Int) ∧ (↑y : Int) ≤ (↑(List.length (strv (List.map AVal.strOf (strv (Prod.fst (Prod.snd l)))))) : Int) ∧ List.length (strv (List.map AVal.strOf (strv (Prod.fst (Prod.snd l))))) ≤ 1000000)))) (brV (hold (decide ((↑(List.length (insC (strv (List.map AVal.strOf (strv (Prod.fst (Prod.snd l))))) (Int.toNat (↑y : Int)) (AVal.str s))) : Int) ≤ (4 : Int)))) true (Q (AVal.tuple [AVal.agg [AVal.mrow 3 (List.length (strv (List.map AVal.strOf (strv (Prod.fst r))))), AVal.mrow 5 (List.length (iv (List.map AVal.intOf (iv (Prod.snd r)))))], AVal.slice [AVal.agg [AVal.int IntKind.i64 (Prod.fst l), AVal.slice (insC (strv (List.map AVal.strOf (strv (Prod.fst (Prod.snd l))))) (Int.toNat (↑y : Int)) (AVal.str s)) 1 Tag.ro, AVal.bool false]] 3 Tag.full, AVal.int IntKind.i64 (0 : Int)]) (Sto.set (Sto.del (Sto.set (Sto.set (Sto.pushRow (Sto.pushRow (Sto.pushRow (Sto.push (Sto.push (Sto.push Sto.empty (AObj.cells [AVal.slice [] 0 Tag.nil, AVal.slice [] 0 Tag.nil])) (AObj.cells [AVal.slice [] 0 Tag.nil, AVal.slice [] 0 Tag.nil])) (AObj.cells [AVal.int IntKind.i64 (0 : Int), AVal.slice [] 0 Tag.nil, AVal.bool false])) (strv (List.map AVal.strOf (strv (Prod.fst r)))) 1) (iv (List.map AVal.intOf (iv (Prod.snd r)))) 1) (strv (List.map AVal.strOf (strv (Prod.fst (Prod.snd l))))) 1) 1 (AObj.cells [AVal.mrow 3 (List.length (strv (List.map AVal.strOf (strv (Prod.fst r))))), AVal.mrow 5 (List.length (iv (List.map AVal.intOf (iv (Prod.snd r)))))])) 2 (AObj.cells [AVal.int IntKind.i64 (Prod.fst l), AVal.mrow 7 (List.length (strv (List.map AVal.strOf (strv (Prod.fst (Prod.snd l)))))), AVal.bool false])) 7) 0 (AObj.cells [AVal.mrow 3 (List.length (strv (List.map AVal.strOf (strv (Prod.fst r))))), AVal.mrow 5 (List.length (iv (List.map AVal.intOf (iv (Prod.snd r)))))]))) (loopV (fun s => St.norm [] [2, 3, 4, 6, 12] [3, 4, 6] s) (vc Try.prog cInsert code_11_1_1_1_1_1_1_1_0_0_0) (blockK 1 (thenK (fun s => cutV (vc Try.prog cInsert code_11_1_1_1_1_1_1_1_1 (endK Try.prog (Array.toList (Go.Func.results Try.f11)) Q)) (St.norm [] [2, 3, 4, 6, 12] [3, 4, 6] s)) (endK Try.prog (Array.toList (Go.Func.results Try.f11)) Q))) (St.mk 98 [(2, AVal.str s), (3, AVal.ptr (Oid.loc 3) 0), (4, AVal.ptr (Oid.loc 4) 0), (6, AVal.ptr (Oid.out 0) 0), (12, AVal.int IntKind.i64 (1 : Int))] [] [(3, AObj.cells [AVal.mrow 3 (List.length (strv (List.map AVal.strOf (strv (Prod.fst r))))), AVal.mrow 5 (List.length (iv (List.map AVal.intOf (iv (Prod.snd r)))))]), (4, AObj.cells [AVal.int IntKind.i64 (Prod.fst l), AVal.slice (insC (strv (List.map AVal.strOf (strv (Prod.fst (Prod.snd l))))) (Int.toNat (↑y : Int)) (AVal.str s)) 1 Tag.ro, AVal.bool false])] (Sto.del (Sto.set (Sto.set (Sto.pushRow (Sto.pushRow (Sto.pushRow (Sto.push (Sto.push (Sto.push Sto.empty (AObj.cells [AVal.slice [] 0 Tag.nil, AVal.slice [] 0 Tag.nil])) (AObj.cells [AVal.slice [] 0 Tag.nil, AVal.slice [] 0 Tag.nil])) (AObj.cells [AVal.int IntKind.i64 (0 : Int), AVal.slice [] 0 Tag.nil, AVal.bool false])) (strv (List.map AVal.strOf (strv (Prod.fst r)))) 1) (iv (List.map AVal.intOf (iv (Prod.snd r)))) 1) (strv (List.map AVal.strOf (strv (Prod.fst (Prod.snd l))))) 1) 1 (AObj.cells [AVal.mrow 3 (List.length (strv (List.map AVal.strOf (strv (Prod.fst r))))), AVal.mrow 5 (List.length (iv (List.map AVal.intOf (iv (Prod.snd r)))))])) 2 (AObj.cells [AVal.int IntKind.i64 (Prod.fst l), AVal.mrow 7 (List.length (strv (List.map AVal.strOf (strv (Prod.fst (Prod.snd l)))))), AVal.bool false])) 7)))))))))) (gb (rootM (AVal.agg [AVal.slice (strv (Prod.fst r)) 1 Tag.ro, AVal.slice (iv (Prod.snd r)) 1 Tag.ro]) && (lfM (AVal.agg [AVal.int IntKind.i64 (Prod.fst l), AVal.slice (strv (Prod.fst (Prod.snd l))) 1 Tag.ro, AVal.bool (Prod.snd (Prod.snd l))]) && isR (Sto.push Sto.empty (AObj.cells [AVal.slice [] 0 Tag.nil, AVal.slice [] 0 Tag.nil])))) (∀ (y : Nat), y = 0 → ∀ (y : Bool), y = List.contains [] s → gb (hold true && lenOk 0) (brV (hold true) true (Q (AVal.tuple [AVal.agg [AVal.slice [] 0 Tag.nil, AVal.slice [] 0 Tag.nil], AVal.slice [] 0 Tag.nil, AVal.int IntKind.i64 (100 : Int)]) (Sto.set (Sto.set (Sto.set (Sto.push (Sto.push (Sto.push Sto.empty (AObj.cells [AVal.slice [] 0 Tag.nil, AVal.slice [] 0 Tag.nil])) (AObj.cells [AVal.slice [] 0 Tag.nil, AVal.slice [] 0 Tag.nil])) (AObj.cells [AVal.int IntKind.i64 (0 : Int), AVal.slice [] 0 Tag.nil, AVal.bool false])) 1 (AObj.cells [AVal.slice [] 0 Tag.nil, AVal.slice [] 0 Tag.nil])) 2 (AObj.cells [AVal.int IntKind.i64 (0 : Int), AVal.slice [] 0 Tag.nil, AVal.bool false])) 0 (AObj.cells [AVal.slice [] 0 Tag.nil, AVal.slice [] 0 Tag.nil]))) (brV (hold (decide ((600 : Int) < (↑(List.length s) : Int)))) true (Q (AVal.tuple [AVal.agg [AVal.slice [] 0 Tag.nil, AVal.slice [] 0 Tag.nil], AVal.slice [] 0 Tag.nil, AVal.int IntKind.i64 (82 : Int)]) (Sto.set (Sto.set (Sto.set (Sto.push (Sto.push (Sto.push Sto.empty (AObj.cells [AVal.slice [] 0 Tag.nil, AVal.slice [] 0 Tag.nil])) (AObj.cells [AVal.slice [] 0 Tag.nil, AVal.slice [] 0 Tag.nil])) (AObj.cells [AVal.int IntKind.i64 (0 : Int), AVal.slice [] 0 Tag.nil, AVal.bool false])) 1 (AObj.cells [AVal.slice [] 0 Tag.nil, AVal.slice [] 0 Tag.nil])) 2 (AObj.cells [AVal.int IntKind.i64 (0 : Int), AVal.slice [] 0 Tag.nil, AVal.bool false])) 0 (AObj.cells [AVal.slice [] 0 Tag.nil, AVal.slice [] 0 Tag.nil]))) (brV (hold y) true (Q (AVal.tuple [AVal.agg [AVal.slice [] 0 Tag.nil, AVal.slice [] 0 Tag.nil], AVal.slice [] 0 Tag.nil, AVal.int IntKind.i64 (31 : Int)]) (Sto.set (Sto.set (Sto.set (Sto.push (Sto.push (Sto.push Sto.empty (AObj.cells [AVal.slice [] 0 Tag.nil, AVal.slice [] 0 Tag.nil])) (AObj.cells [AVal.slice [] 0 Tag.nil, AVal.slice [] 0 Tag.nil])) (AObj.cells [AVal.int IntKind.i64 (0 : Int), AVal.slice [] 0 Tag.nil, AVal.bool false])) 1 (AObj.cells [AVal.slice [] 0 Tag.nil, AVal.slice [] 0 Tag.nil])) 2 (AObj.cells [AVal.int IntKind.i64 (0 : Int), AVal.slice [] 0 Tag.nil, AVal.bool false])) 0 (AObj.cells [AVal.slice [] 0 Tag.nil, AVal.slice [] 0 Tag.nil]))) (gb false (brV (hold true) true (Q (AVal.tuple [AVal.agg [AVal.slice [] 0 Tag.nil, AVal.slice [] 0 Tag.nil], AVal.slice [AVal.agg [AVal.int IntKind.i64 (0 : Int), AVal.slice [] 1 Tag.ro, AVal.bool false]] 3 Tag.full, AVal.int IntKind.i64 (0 : Int)]) (Sto.set (Sto.set (Sto.set (Sto.push (Sto.push (Sto.push Sto.empty (AObj.cells [AVal.slice [] 0 Tag.nil, AVal.slice [] 0 Tag.nil])) (AObj.cells [AVal.slice [] 0 Tag.nil, AVal.slice [] 0 Tag.nil])) (AObj.cells [AVal.int IntKind.i64 (0 : Int), AVal.slice [] 0 Tag.nil, AVal.bool false])) 1 (AObj.cells [AVal.slice [] 0 Tag.nil, AVal.slice [] 0 Tag.nil])) 2 (AObj.cells [AVal.int IntKind.i64 (0 : Int), AVal.slice [] 0 Tag.nil, AVal.bool false])) 0 (AObj.cells [AVal.slice [] 0 Tag.nil, AVal.slice [] 0 Tag.nil]))) (loopV (fun s => St.norm [] [2, 3, 4, 6, 12] [3, 4, 6] s) (vc Try.prog cInsert code_11_1_1_1_1_1_1_1_0_0_0) (blockK 1 (thenK (fun s => cutV (vc Try.prog cInsert code_11_1_1_1_1_1_1_1_1 (endK Try.prog (Array.toList (Go.Func.results Try.f11)) Q)) (St.norm [] [2, 3, 4, 6, 12] [3, 4, 6] s)) (endK Try.prog (Array.toList (Go.Func.results Try.f11)) Q))) (St.mk 98 [(2, AVal.str s), (3, AVal.ptr (Oid.loc 3) 0), (4, AVal.ptr (Oid.loc 4) 0), (6, AVal.ptr (Oid.out 0) 0), (12, AVal.int IntKind.i64 (1 : Int))] [] [(3, AObj.cells [AVal.slice [] 0 Tag.nil, AVal.slice [] 0 Tag.nil]), (4, AObj.cells [AVal.int IntKind.i64 (0 : Int), AVal.slice [] 1 Tag.ro, AVal.bool false])] (Sto.set (Sto.set (Sto.push (Sto.push (Sto.push Sto.empty (AObj.cells [AVal.slice [] 0 Tag.nil, AVal.slice [] 0 Tag.nil])) (AObj.cells [AVal.slice [] 0 Tag.nil, AVal.slice [] 0 Tag.nil])) (AObj.cells [AVal.int IntKind.i64 (0 : Int), AVal.slice [] 0 Tag.nil, AVal.bool false])) 1 (AObj.cells [AVal.slice [] 0 Tag.nil, AVal.slice [] 0 Tag.nil])) 2 (AObj.cells [AVal.int IntKind.i64 (0 : Int), AVal.slice [] 0 Tag.nil, AVal.bool false])))))))))))) := by kernel_rfl
theorem insert_i (r : Root) (l : Lf) (s : Txt) (Q : AVal → Sto → Prop) (ho : OrcOk Try.prog cInsert) (h : brV (hold (ownB (List.map AVal.strOf (strv (Prod.fst r)), List.map AVal.intOf (iv (Prod.snd r))) (Prod.fst l, List.map AVal.strOf (strv (Prod.fst (Prod.snd l))), Prod.snd (Prod.snd l)) s)) true (gb (rootM (AVal.agg [AVal.slice (strv (Prod.fst r)) 1 Tag.ro, AVal.slice (iv (Prod.snd r)) 1 Tag.ro]) && (lfM (AVal.agg [AVal.int IntKind.i64 (Prod.fst l), AVal.slice (strv (Prod.fst (Prod.snd l))) 1 Tag.ro, AVal.bool (Prod.snd (Prod.snd l))]) && isR (Sto.push Sto.empty (AObj.cells [AVal.slice [] 0 Tag.nil, AVal.slice [] 0 Tag.nil])))) (∀ (y : Nat), y = posN (List.map AVal.strOf (strv (List.map AVal.strOf (strv (Prod.fst (Prod.snd l)))))) s → ∀ (y_1 : Bool), y_1 = List.contains (List.map AVal.strOf (strv (List.map AVal.strOf (strv (Prod.fst (Prod.snd l)))))) s → gb (Nat.beq (7 + 1) (7 + 1) && (hold (decide (List.length (strv (List.map AVal.strOf (strv (Prod.fst (Prod.snd l))))) = List.length (strv (List.map AVal.strOf (strv (Prod.fst (Prod.snd l))))))) && (noOutL 0 (strv (List.map AVal.strOf (strv (Prod.fst (Prod.snd l))))) && noTokL 0 (strv (List.map AVal.strOf (strv (Prod.fst (Prod.snd l))))))) && true && (List.all (strv (List.map AVal.strOf (strv (Prod.fst (Prod.snd l))))) strIs && (hold (riseL (List.map AVal.strOf (strv (List.map AVal.strOf (strv (Prod.fst (Prod.snd l))))))) && lenOk (List.length (strv (List.map AVal.strOf (strv (Prod.fst (Prod.snd l))))))) && true)) (brV (hold false) true (Q (AVal.tuple [AVal.agg [AVal.slice [] 0 Tag.nil, AVal.slice [] 0 Tag.nil], AVal.slice [] 0 Tag.nil, AVal.int IntKind.i64 (0 : Int)]) (Sto.set (Sto.set (Sto.set (Sto.pushRow (Sto.pushRow (Sto.pushRow (Sto.push (Sto.push (Sto.push Sto.empty (AObj.cells [AVal.slice [] 0 Tag.nil, AVal.slice [] 0 Tag.nil])) (AObj.cells [AVal.slice [] 0 Tag.nil, AVal.slice [] 0 Tag.nil])) (AObj.cells [AVal.int IntKind.i64 (0 : Int), AVal.slice [] 0 Tag.nil, AVal.bool false])) (strv (List.map AVal.strOf (strv (Prod.fst r)))) 1) (iv (List.map AVal.intOf (iv (Prod.snd r)))) 1) (strv (List.map AVal.strOf (strv (Prod.fst (Prod.snd l))))) 1) 1 (AObj.cells [AVal.mrow 3 (List.length (strv (List.map AVal.strOf (strv (Prod.fst r))))), AVal.mrow 5 (List.length (iv (List.map AVal.intOf (iv (Prod.snd r)))))])) 2 (AObj.cells [AVal.int IntKind.i64 (Prod.fst l), AVal.mrow 7 (List.length (strv (List.map AVal.strOf (strv (Prod.fst (Prod.snd l)))))), AVal.bool false])) 0 (AObj.cells [AVal.slice [] 0 Tag.nil, AVal.slice [] 0 Tag.nil]))) (brV (hold (decide ((600 : Int) < (↑(List.length s) : Int)))) true (Q (AVal.tuple [AVal.agg [AVal.slice [] 0 Tag.nil, AVal.slice [] 0 Tag.nil], AVal.slice [] 0 Tag.nil, AVal.int IntKind.i64 (82 : Int)]) (Sto.set (Sto.set (Sto.set (Sto.pushRow (Sto.pushRow (Sto.pushRow (Sto.push (Sto.push (Sto.push Sto.empty (AObj.cells [AVal.slice [] 0 Tag.nil, AVal.slice [] 0 Tag.nil])) (AObj.cells [AVal.slice [] 0 Tag.nil, AVal.slice [] 0 Tag.nil])) (AObj.cells [AVal.int IntKind.i64 (0 : Int), AVal.slice [] 0 Tag.nil, AVal.bool false])) (strv (List.map AVal.strOf (strv (Prod.fst r)))) 1) (iv (List.map AVal.intOf (iv (Prod.snd r)))) 1) (strv (List.map AVal.strOf (strv (Prod.fst (Prod.snd l))))) 1) 1 (AObj.cells [AVal.mrow 3 (List.length (strv (List.map AVal.strOf (strv (Prod.fst r))))), AVal.mrow 5 (List.length (iv (List.map AVal.intOf (iv (Prod.snd r)))))])) 2 (AObj.cells [AVal.int IntKind.i64 (Prod.fst l), AVal.mrow 7 (List.length (strv (List.map AVal.strOf (strv (Prod.fst (Prod.snd l)))))), AVal.bool false])) 0 (AObj.cells [AVal.slice [] 0 Tag.nil, AVal.slice [] 0 Tag.nil]))) (brV (hold y_1) true (Q (AVal.tuple [AVal.agg [AVal.slice [] 0 Tag.nil, AVal.slice [] 0 Tag.nil], AVal.slice [] 0 Tag.nil, AVal.int IntKind.i64 (31 : Int)]) (Sto.set (Sto.set (Sto.set (Sto.pushRow (Sto.pushRow (Sto.pushRow (Sto.push (Sto.push (Sto.push Sto.empty (AObj.cells [AVal.slice [] 0 Tag.nil, AVal.slice [] 0 Tag.nil])) (AObj.cells [AVal.slice [] 0 Tag.nil, AVal.slice [] 0 Tag.nil])) (AObj.cells [AVal.int IntKind.i64 (0 : Int), AVal.slice [] 0 Tag.nil, AVal.bool false])) (strv (List.map AVal.strOf (strv (Prod.fst r)))) 1) (iv (List.map AVal.intOf (iv (Prod.snd r)))) 1) (strv (List.map AVal.strOf (strv (Prod.fst (Prod.snd l))))) 1) 1 (AObj.cells [AVal.mrow 3 (List.length (strv (List.map AVal.strOf (strv (Prod.fst r))))), AVal.mrow 5 (List.length (iv (List.map AVal.intOf (iv (Prod.snd r)))))])) 2 (AObj.cells [AVal.int IntKind.i64 (Prod.fst l), AVal.mrow 7 (List.length (strv (List.map AVal.strOf (strv (Prod.fst (Prod.snd l)))))), AVal.bool false])) 0 (AObj.cells [AVal.slice [] 0 Tag.nil, AVal.slice [] 0 Tag.nil]))) (gb (Nat.beq (7 + 1) (7 + 1) && (List.all (strv (List.map AVal.strOf (strv (Prod.fst (Prod.snd l))))) strIs && hold (decide (List.length (strv (List.map AVal.strOf (strv (Prod.fst (Prod.snd l))))) = List.length (strv (List.map AVal.strOf (strv (Prod.fst (Prod.snd l))))) ∧ (0 : Int) ≤ (↑y : Int) ∧ (↑y : Int) ≤ (↑(List.length (strv (List.map AVal.strOf (strv (Prod.fst (Prod.snd l)))))) : Int) ∧ List.length (strv (List.map AVal.strOf (strv (Prod.fst (Prod.snd l))))) ≤ 1000000)))) (brV (hold (decide ((↑(List.length (insC (strv (List.map AVal.strOf (strv (Prod.fst (Prod.snd l))))) (Int.toNat (↑y : Int)) (AVal.str s))) : Int) ≤ (4 : Int)))) true (Q (AVal.tuple [AVal.agg [AVal.mrow 3 (List.length (strv (List.map AVal.strOf (strv (Prod.fst r))))), AVal.mrow 5 (List.length (iv (List.map AVal.intOf (iv (Prod.snd r)))))], AVal.slice [AVal.agg [AVal.int IntKind.i64 (Prod.fst l), AVal.slice (insC (strv (List.map AVal.strOf (strv (Prod.fst (Prod.snd l))))) (Int.toNat (↑y : Int)) (AVal.str s)) 1 Tag.ro, AVal.bool false]] 3 Tag.full, AVal.int IntKind.i64 (0 : Int)]) (Sto.set (Sto.del (Sto.set (Sto.set (Sto.pushRow (Sto.pushRow (Sto.pushRow (Sto.push (Sto.push (Sto.push Sto.empty (AObj.cells [AVal.slice [] 0 Tag.nil, AVal.slice [] 0 Tag.nil])) (AObj.cells [AVal.slice [] 0 Tag.nil, AVal.slice [] 0 Tag.nil])) (AObj.cells [AVal.int IntKind.i64 (0 : Int), AVal.slice [] 0 Tag.nil, AVal.bool false])) (strv (List.map AVal.strOf (strv (Prod.fst r)))) 1) (iv (List.map AVal.intOf (iv (Prod.snd r)))) 1) (strv (List.map AVal.strOf (strv (Prod.fst (Prod.snd l))))) 1) 1 (AObj.cells [AVal.mrow 3 (List.length (strv (List.map AVal.strOf (strv (Prod.fst r))))), AVal.mrow 5 (List.length (iv (List.map AVal.intOf (iv (Prod.snd r)))))])) 2 (AObj.cells [AVal.int IntKind.i64 (Prod.fst l), AVal.mrow 7 (List.length (strv (List.map AVal.strOf (strv (Prod.fst (Prod.snd l)))))), AVal.bool false])) 7) 0 (AObj.cells [AVal.mrow 3 (List.length (strv (List.map AVal.strOf (strv (Prod.fst r))))), AVal.mrow 5 (List.length (iv (List.map AVal.intOf (iv (Prod.snd r)))))]))) (loopV (fun s => St.norm [] [2, 3, 4, 6, 12] [3, 4, 6] s) (vc Try.prog cInsert code_11_1_1_1_1_1_1_1_0_0_0) (blockK 1 (thenK (fun s => cutV (vc Try.prog cInsert code_11_1_1_1_1_1_1_1_1 (endK Try.prog (Array.toList (Go.Func.results Try.f11)) Q)) (St.norm [] [2, 3, 4, 6, 12] [3, 4, 6] s)) (endK Try.prog (Array.toList (Go.Func.results Try.f11)) Q))) (St.mk 98 [(2, AVal.str s), (3, AVal.ptr (Oid.loc 3) 0), (4, AVal.ptr (Oid.loc 4) 0), (6, AVal.ptr (Oid.out 0) 0), (12, AVal.int IntKind.i64 (1 : Int))] [] [(3, AObj.cells [AVal.mrow 3 (List.length (strv (List.map AVal.strOf (strv (Prod.fst r))))), AVal.mrow 5 (List.length (iv (List.map AVal.intOf (iv (Prod.snd r)))))]), (4, AObj.cells [AVal.int IntKind.i64 (Prod.fst l), AVal.slice (insC (strv (List.map AVal.strOf (strv (Prod.fst (Prod.snd l))))) (Int.toNat (↑y : Int)) (AVal.str s)) 1 Tag.ro, AVal.bool false])] (Sto.del (Sto.set (Sto.set (Sto.pushRow (Sto.pushRow (Sto.pushRow (Sto.push (Sto.push (Sto.push Sto.empty (AObj.cells [AVal.slice [] 0 Tag.nil, AVal.slice [] 0 Tag.nil])) (AObj.cells [AVal.slice [] 0 Tag.nil, AVal.slice [] 0 Tag.nil])) (AObj.cells [AVal.int IntKind.i64 (0 : Int), AVal.slice [] 0 Tag.nil, AVal.bool false])) (strv (List.map AVal.strOf (strv (Prod.fst r)))) 1) (iv (List.map AVal.intOf (iv (Prod.snd r)))) 1) (strv (List.map AVal.strOf (strv (Prod.fst (Prod.snd l))))) 1) 1 (AObj.cells [AVal.mrow 3 (List.length (strv (List.map AVal.strOf (strv (Prod.fst r))))), AVal.mrow 5 (List.length (iv (List.map AVal.intOf (iv (Prod.snd r)))))])) 2 (AObj.cells [AVal.int IntKind.i64 (Prod.fst l), AVal.mrow 7 (List.length (strv (List.map AVal.strOf (strv (Prod.fst (Prod.snd l)))))), AVal.bool false])) 7)))))))))) (gb (rootM (AVal.agg [AVal.slice (strv (Prod.fst r)) 1 Tag.ro, AVal.slice (iv (Prod.snd r)) 1 Tag.ro]) && (lfM (AVal.agg [AVal.int IntKind.i64 (Prod.fst l), AVal.slice (strv (Prod.fst (Prod.snd l))) 1 Tag.ro, AVal.bool (Prod.snd (Prod.snd l))]) && isR (Sto.push Sto.empty (AObj.cells [AVal.slice [] 0 Tag.nil, AVal.slice [] 0 Tag.nil])))) (∀ (y : Nat), y = 0 → ∀ (y : Bool), y = List.contains [] s → gb (hold true && lenOk 0) (brV (hold true) true (Q (AVal.tuple [AVal.agg [AVal.slice [] 0 Tag.nil, AVal.slice [] 0 Tag.nil], AVal.slice [] 0 Tag.nil, AVal.int IntKind.i64 (100 : Int)]) (Sto.set (Sto.set (Sto.set (Sto.push (Sto.push (Sto.push Sto.empty (AObj.cells [AVal.slice [] 0 Tag.nil, AVal.slice [] 0 Tag.nil])) (AObj.cells [AVal.slice [] 0 Tag.nil, AVal.slice [] 0 Tag.nil])) (AObj.cells [AVal.int IntKind.i64 (0 : Int), AVal.slice [] 0 Tag.nil, AVal.bool false])) 1 (AObj.cells [AVal.slice [] 0 Tag.nil, AVal.slice [] 0 Tag.nil])) 2 (AObj.cells [AVal.int IntKind.i64 (0 : Int), AVal.slice [] 0 Tag.nil, AVal.bool false])) 0 (AObj.cells [AVal.slice [] 0 Tag.nil, AVal.slice [] 0 Tag.nil]))) (brV (hold (decide ((600 : Int) < (↑(List.length s) : Int)))) true (Q (AVal.tuple [AVal.agg [AVal.slice [] 0 Tag.nil, AVal.slice [] 0 Tag.nil], AVal.slice [] 0 Tag.nil, AVal.int IntKind.i64 (82 : Int)]) (Sto.set (Sto.set (Sto.set (Sto.push (Sto.push (Sto.push Sto.empty (AObj.cells [AVal.slice [] 0 Tag.nil, AVal.slice [] 0 Tag.nil])) (AObj.cells [AVal.slice [] 0 Tag.nil, AVal.slice [] 0 Tag.nil])) (AObj.cells [AVal.int IntKind.i64 (0 : Int), AVal.slice [] 0 Tag.nil, AVal.bool false])) 1 (AObj.cells [AVal.slice [] 0 Tag.nil, AVal.slice [] 0 Tag.nil])) 2 (AObj.cells [AVal.int IntKind.i64 (0 : Int), AVal.slice [] 0 Tag.nil, AVal.bool false])) 0 (AObj.cells [AVal.slice [] 0 Tag.nil, AVal.slice [] 0 Tag.nil]))) (brV (hold y) true (Q (AVal.tuple [AVal.agg [AVal.slice [] 0 Tag.nil, AVal.slice [] 0 Tag.nil], AVal.slice [] 0 Tag.nil, AVal.int IntKind.i64 (31 : Int)]) (Sto.set (Sto.set (Sto.set (Sto.push (Sto.push (Sto.push Sto.empty (AObj.cells [AVal.slice [] 0 Tag.nil, AVal.slice [] 0 Tag.nil])) (AObj.cells [AVal.slice [] 0 Tag.nil, AVal.slice [] 0 Tag.nil])) (AObj.cells [AVal.int IntKind.i64 (0 : Int), AVal.slice [] 0 Tag.nil, AVal.bool false])) 1 (AObj.cells [AVal.slice [] 0 Tag.nil, AVal.slice [] 0 Tag.nil])) 2 (AObj.cells [AVal.int IntKind.i64 (0 : Int), AVal.slice [] 0 Tag.nil, AVal.bool false])) 0 (AObj.cells [AVal.slice [] 0 Tag.nil, AVal.slice [] 0 Tag.nil]))) (gb false (brV (hold true) true (Q (AVal.tuple [AVal.agg [AVal.slice [] 0 Tag.nil, AVal.slice [] 0 Tag.nil], AVal.slice [AVal.agg [AVal.int IntKind.i64 (0 : Int), AVal.slice [] 1 Tag.ro, AVal.bool false]] 3 Tag.full, AVal.int IntKind.i64 (0 : Int)]) (Sto.set (Sto.set (Sto.set (Sto.push (Sto.push (Sto.push Sto.empty (AObj.cells [AVal.slice [] 0 Tag.nil, AVal.slice [] 0 Tag.nil])) (AObj.cells [AVal.slice [] 0 Tag.nil, AVal.slice [] 0 Tag.nil])) (AObj.cells [AVal.int IntKind.i64 (0 : Int), AVal.slice [] 0 Tag.nil, AVal.bool false])) 1 (AObj.cells [AVal.slice [] 0 Tag.nil, AVal.slice [] 0 Tag.nil])) 2 (AObj.cells [AVal.int IntKind.i64 (0 : Int), AVal.slice [] 0 Tag.nil, AVal.bool false])) 0 (AObj.cells [AVal.slice [] 0 Tag.nil, AVal.slice [] 0 Tag.nil]))) (loopV (fun s => St.norm [] [2, 3, 4, 6, 12] [3, 4, 6] s) (vc Try.prog cInsert code_11_1_1_1_1_1_1_1_0_0_0) (blockK 1 (thenK (fun s => cutV (vc Try.prog cInsert code_11_1_1_1_1_1_1_1_1 (endK Try.prog (Array.toList (Go.Func.results Try.f11)) Q)) (St.norm [] [2, 3, 4, 6, 12] [3, 4, 6] s)) (endK Try.prog (Array.toList (Go.Func.results Try.f11)) Q))) (St.mk 98 [(2, AVal.str s), (3, AVal.ptr (Oid.loc 3) 0), (4, AVal.ptr (Oid.loc 4) 0), (6, AVal.ptr (Oid.out 0) 0), (12, AVal.int IntKind.i64 (1 : Int))] [] [(3, AObj.cells [AVal.slice [] 0 Tag.nil, AVal.slice [] 0 Tag.nil]), (4, AObj.cells [AVal.int IntKind.i64 (0 : Int), AVal.slice [] 1 Tag.ro, AVal.bool false])] (Sto.set (Sto.set (Sto.push (Sto.push (Sto.push Sto.empty (AObj.cells [AVal.slice [] 0 Tag.nil, AVal.slice [] 0 Tag.nil])) (AObj.cells [AVal.slice [] 0 Tag.nil, AVal.slice [] 0 Tag.nil])) (AObj.cells [AVal.int IntKind.i64 (0 : Int), AVal.slice [] 0 Tag.nil, AVal.bool false])) 1 (AObj.cells [AVal.slice [] 0 Tag.nil, AVal.slice [] 0 Tag.nil])) 2 (AObj.cells [AVal.int IntKind.i64 (0 : Int), AVal.slice [] 0 Tag.nil, AVal.bool false])))))))))))) : ACall Try.prog 11 [rootV r, lfV l, .str s] (Sto.empty) Q :=
  ACall.intro hmix Try.func11 (c := code_11_) (by kernel_rfl) cInsert ho (Nat.le_of_ble_eq_true (by kernel_rfl)) (by rw [insert_r]; exact h)
noncomputable def insertL_S (a : List Txt) (b : List Int) (xs es : List Txt) (g : Int) (n1 n2 : Nat) (s : Txt) (c c1 c2 : List AVal) (no : Nat) : St := St.mk 98 [(2, .str s), (3, .ptr (.loc 3) 0), (4, .ptr (.loc 4) 0), (6, .ptr (.out 0) 0), (12, .int .i64 (no : Int))] [] [(3, .cells [.mrow 3 n1, .mrow 5 n2]), (4, .cells [.int .i64 g, .slice (strv es) 1 .ro, .bool false])] (Sto.del (Sto.set (Sto.set (Sto.pushRow (Sto.pushRow (Sto.pushRow (Sto.push (Sto.push (Sto.push Sto.empty (.cells c)) (.cells nilRC)) (.cells nilLC)) (strv a) 1) (iv b) 1) (strv xs) 1) 1 (.cells c1)) 2 (.cells c2)) 7)
theorem insertL_r (a : List Txt) (b : List Int) (xs es : List Txt) (g : Int) (n1 n2 : Nat) (s : Txt) (c c1 c2 : List AVal) (no : Nat) (L : St → Prop) (K : Exit → St → Prop) : vc Try.prog cInsert code_11_1_1_1_1_1_1_1_0_0_0 (thenK (fun s => L (St.norm [] [2, 3, 4, 6, 12] [3, 4, 6] s)) K) (St.mk 98 [(2, .str s), (3, .ptr (.loc 3) 0), (4, .ptr (.loc 4) 0), (6, .ptr (.out 0) 0), (12, .int .i64 (no : Int))] [] [(3, .cells [.mrow 3 n1, .mrow 5 n2]), (4, .cells [.int .i64 g, .slice (strv es) 1 .ro, .bool false])] (Sto.del (Sto.set (Sto.set (Sto.pushRow (Sto.pushRow (Sto.pushRow (Sto.push (Sto.push (Sto.push Sto.empty (.cells c)) (.cells nilRC)) (.cells nilLC)) (strv a) 1) (iv b) 1) (strv xs) 1) 1 (.cells c1)) 2 (.cells c2)) 7)) =
  (gb (Nat.beq (5 + 1) (5 + 1) && (hold (decide (n2 = List.length (iv b))) && (noOutL 0 (iv b) && noTokL 0 (iv b))) && true && (List.all (iv b) isI64 && lenOk (List.length (iv b)) && true)) (brV (hold (List.contains (List.map AVal.intOf (iv b)) (↑no : Int))) true (L (St.mk 98 [(2, AVal.str s), (3, AVal.ptr (Oid.loc 3) 0), (4, AVal.ptr (Oid.loc 4) 0), (6, AVal.ptr (Oid.out 0) 0), (12, AVal.int IntKind.i64 (IntKind.wrap IntKind.i64 ((↑no : Int) + (1 : Int))))] [] [(3, AObj.cells [AVal.mrow 3 n1, AVal.mrow 5 n2]), (4, AObj.cells [AVal.int IntKind.i64 g, AVal.slice (strv es) 1 Tag.ro, AVal.bool false])] (Sto.del (Sto.set (Sto.set (Sto.pushRow (Sto.pushRow (Sto.pushRow (Sto.push (Sto.push (Sto.push Sto.empty (AObj.cells c)) (AObj.cells [AVal.slice [] 0 Tag.nil, AVal.slice [] 0 Tag.nil])) (AObj.cells [AVal.int IntKind.i64 (0 : Int), AVal.slice [] 0 Tag.nil, AVal.bool false])) (strv a) 1) (iv b) 1) (strv xs) 1) 1 (AObj.cells c1)) 2 (AObj.cells c2)) 7))) (K (Exit.exit 1) (St.mk 98 [(2, AVal.str s), (3, AVal.ptr (Oid.loc 3) 0), (4, AVal.ptr (Oid.loc 4) 0), (6, AVal.ptr (Oid.out 0) 0), (12, AVal.int IntKind.i64 (↑no : Int)), (60, AVal.bool (hold (List.contains (List.map AVal.intOf (iv b)) (↑no : Int))))] [] [(3, AObj.cells [AVal.mrow 3 n1, AVal.mrow 5 n2]), (4, AObj.cells [AVal.int IntKind.i64 g, AVal.slice (strv es) 1 Tag.ro, AVal.bool false])] (Sto.del (Sto.set (Sto.set (Sto.pushRow (Sto.pushRow (Sto.pushRow (Sto.push (Sto.push (Sto.push Sto.empty (AObj.cells c)) (AObj.cells [AVal.slice [] 0 Tag.nil, AVal.slice [] 0 Tag.nil])) (AObj.cells [AVal.int IntKind.i64 (0 : Int), AVal.slice [] 0 Tag.nil, AVal.bool false])) (strv a) 1) (iv b) 1) (strv xs) 1) 1 (AObj.cells c1)) 2 (AObj.cells c2)) 7))))) := by kernel_rfl
noncomputable def insertC_S (a : List Txt) (b : List Int) (xs es : List Txt) (g : Int) (n1 n2 : Nat) (s : Txt) (c c1 c2 : List AVal) (no : Nat) : St := St.mk 98 [(2, .str s), (3, .ptr (.loc 3) 0), (4, .ptr (.loc 4) 0), (6, .ptr (.out 0) 0), (12, .int .i64 (no : Int))] [] [(3, .cells [.mrow 3 n1, .mrow 5 n2]), (4, .cells [.int .i64 g, .slice (strv es) 1 .ro, .bool false])] (Sto.del (Sto.set (Sto.set (Sto.pushRow (Sto.pushRow (Sto.pushRow (Sto.push (Sto.push (Sto.push Sto.empty (.cells c)) (.cells nilRC)) (.cells nilLC)) (strv a) 1) (iv b) 1) (strv xs) 1) 1 (.cells c1)) 2 (.cells c2)) 7)
theorem insertC_r (a : List Txt) (b : List Int) (xs es : List Txt) (g : Int) (n1 n2 : Nat) (s : Txt) (c c1 c2 : List AVal) (no : Nat) (Q : AVal → Sto → Prop) : vc Try.prog cInsert code_11_1_1_1_1_1_1_1_1 (endK Try.prog Try.f11.results.toList Q) (St.mk 98 [(2, .str s), (3, .ptr (.loc 3) 0), (4, .ptr (.loc 4) 0), (6, .ptr (.out 0) 0), (12, .int .i64 (no : Int))] [] [(3, .cells [.mrow 3 n1, .mrow 5 n2]), (4, .cells [.int .i64 g, .slice (strv es) 1 .ro, .bool false])] (Sto.del (Sto.set (Sto.set (Sto.pushRow (Sto.pushRow (Sto.pushRow (Sto.push (Sto.push (Sto.push Sto.empty (.cells c)) (.cells nilRC)) (.cells nilLC)) (strv a) 1) (iv b) 1) (strv xs) 1) 1 (.cells c1)) 2 (.cells c2)) 7)) =
  (∀ (y : Nat), y = atN (List.map AVal.strOf (strv a)) s → gb (viewOk (Sto.obj (St.σ (St.mk 98 [(2, AVal.str s), (3, AVal.ptr (Oid.loc 3) 0), (4, AVal.ptr (Oid.loc 4) 0), (6, AVal.ptr (Oid.out 0) 0), (12, AVal.int IntKind.i64 (↑no : Int))] [(64, AVal.str s), (63, AVal.agg [AVal.mrow 3 n1, AVal.mrow 5 n2])] [(3, AObj.cells [AVal.mrow 3 n1, AVal.mrow 5 n2]), (4, AObj.cells [AVal.int IntKind.i64 g, AVal.slice (strv es) 1 Tag.ro, AVal.bool false])] (Sto.del (Sto.set (Sto.set (Sto.pushRow (Sto.pushRow (Sto.pushRow (Sto.push (Sto.push (Sto.push Sto.empty (AObj.cells c)) (AObj.cells [AVal.slice [] 0 Tag.nil, AVal.slice [] 0 Tag.nil])) (AObj.cells [AVal.int IntKind.i64 (0 : Int), AVal.slice [] 0 Tag.nil, AVal.bool false])) (strv a) 1) (iv b) 1) (strv xs) 1) 1 (AObj.cells c1)) 2 (AObj.cells c2)) 7)))) (AVal.agg [AVal.mrow 3 n1, AVal.mrow 5 n2]) && true && (rootG (AVal.agg [AVal.slice (strv a) 1 Tag.ro, AVal.slice (iv b) 1 Tag.ro]) && hold (riseL (List.map AVal.strOf (strv a))) && true)) (gb (decide ((0 : Int) ≤ (3 : Int) ∧ (3 : Int) ≤ (↑(List.length (strv es)) : Int) ∧ (↑(List.length (strv es)) : Int) ≤ (↑(List.length (strv es)) : Int))) (gb (List.all (List.take (Int.toNat (↑(List.length (strv es)) : Int) - 3) (List.drop 3 (strv es))) strIs && hold (decide (List.length (List.take (Int.toNat (↑(List.length (strv es)) : Int) - 3) (List.drop 3 (strv es))) ≤ 1000000))) (gb (decide ((0 : Int) ≤ (0 : Int) ∧ (0 : Int) ≤ (3 : Int) ∧ (3 : Int) ≤ (↑(List.length (strv es)) : Int) ∧ (3 : Int) = (3 : Int))) (gb (decide ((0 : Int) ≤ (0 : Int) ∧ (0 : Int) < (↑(List.length (List.take (Int.toNat (↑(List.length (strv es)) : Int) - 3) (List.drop 3 (strv es)))) : Int))) (gb (decide (1 ≤ List.length (elemAt (List.take (Int.toNat (↑(List.length (strv es)) : Int) - 3) (List.drop 3 (strv es))) (0 : Int)) ∧ 0 < 1) && etaOk Sh.str (List.getD (elemAt (List.take (Int.toNat (↑(List.length (strv es)) : Int) - 3) (List.drop 3 (strv es))) (0 : Int)) 0 AVal.undef)) (gb (Nat.beq (3 + 1) (3 + 1) && (List.all (strv a) strIs && hold (decide (n1 = List.length (strv a) ∧ (0 : Int) ≤ (↑y : Int) ∧ (↑y : Int) ≤ (↑(List.length (strv a)) : Int) ∧ List.length (strv a) ≤ 1000000)))) (gb (Nat.beq (5 + 1) (5 + 1) && (List.all (iv b) isI64 && hold (decide (n2 = List.length (iv b) ∧ (0 : Int) ≤ IntKind.wrap IntKind.i64 ((↑y : Int) + (1 : Int)) ∧ IntKind.wrap IntKind.i64 ((↑y : Int) + (1 : Int)) ≤ (↑(List.length (iv b)) : Int) ∧ List.length (iv b) ≤ 1000000)))) (gb (decide (2 ≤ List.length c ∧ (Oid.isOut (Oid.out 0) = true → noLocL (AVal.cells (St.eval (St.mk 98 [(2, AVal.str s), (3, AVal.ptr (Oid.loc 3) 0), (4, AVal.ptr (Oid.loc 4) 0), (6, AVal.ptr (Oid.out 0) 0), (12, AVal.int IntKind.i64 (↑no : Int)), (13, AVal.int IntKind.i64 (↑y : Int)), (14, AVal.ptr (Oid.loc 14) 0)] [(97, AVal.slice [AVal.agg [AVal.int IntKind.i64 g, AVal.slice (List.take 3 (List.drop 0 (strv es))) 1 Tag.full, AVal.bool false], AVal.agg [AVal.int IntKind.i64 (↑no : Int), AVal.slice (List.take (Int.toNat (↑(List.length (strv es)) : Int) - 3) (List.drop 3 (strv es))) 1 Tag.ro, AVal.bool false]] 3 Tag.full), (96, AVal.agg [AVal.int IntKind.i64 (↑no : Int), AVal.slice (List.take (Int.toNat (↑(List.length (strv es)) : Int) - 3) (List.drop 3 (strv es))) 1 Tag.ro, AVal.bool false]), (95, AVal.agg [AVal.int IntKind.i64 g, AVal.slice (List.take 3 (List.drop 0 (strv es))) 1 Tag.full, AVal.bool false]), (94, AVal.agg [AVal.slice (insC (strv a) (Int.toNat (↑y : Int)) (AVal.str (AVal.strOf (List.getD (elemAt (List.take (Int.toNat (↑(List.length (strv es)) : Int) - 3) (List.drop 3 (strv es))) (0 : Int)) 0 AVal.undef)))) 1 Tag.ro, AVal.slice (insC (iv b) (Int.toNat (IntKind.wrap IntKind.i64 ((↑y : Int) + (1 : Int)))) (AVal.int IntKind.i64 (↑no : Int))) 1 Tag.ro])] [(3, AObj.cells [AVal.slice (insC (strv a) (Int.toNat (↑y : Int)) (AVal.str (AVal.strOf (List.getD (elemAt (List.take (Int.toNat (↑(List.length (strv es)) : Int) - 3) (List.drop 3 (strv es))) (0 : Int)) 0 AVal.undef)))) 1 Tag.ro, AVal.slice (insC (iv b) (Int.toNat (IntKind.wrap IntKind.i64 ((↑y : Int) + (1 : Int)))) (AVal.int IntKind.i64 (↑no : Int))) 1 Tag.ro]), (4, AObj.cells [AVal.int IntKind.i64 g, AVal.slice (List.take 3 (List.drop 0 (strv es))) 1 Tag.full, AVal.bool false]), (14, AObj.cells [AVal.int IntKind.i64 (↑no : Int), AVal.slice (List.take (Int.toNat (↑(List.length (strv es)) : Int) - 3) (List.drop 3 (strv es))) 1 Tag.ro, AVal.bool false])] (Sto.del (Sto.del (Sto.del (Sto.set (Sto.set (Sto.pushRow (Sto.pushRow (Sto.pushRow (Sto.push (Sto.push (Sto.push Sto.empty (AObj.cells c)) (AObj.cells [AVal.slice [] 0 Tag.nil, AVal.slice [] 0 Tag.nil])) (AObj.cells [AVal.int IntKind.i64 (0 : Int), AVal.slice [] 0 Tag.nil, AVal.bool false])) (strv a) 1) (iv b) 1) (strv xs) 1) 1 (AObj.cells c1)) 2 (AObj.cells c2)) 7) 3) 5)) (Go.Operand.tmp 94))) = true))) (Q (AVal.tuple [AVal.agg [AVal.slice (insC (strv a) (Int.toNat (↑y : Int)) (AVal.str (AVal.strOf (List.getD (elemAt (List.take (Int.toNat (↑(List.length (strv es)) : Int) - 3) (List.drop 3 (strv es))) (0 : Int)) 0 AVal.undef)))) 1 Tag.ro, AVal.slice (insC (iv b) (Int.toNat (IntKind.wrap IntKind.i64 ((↑y : Int) + (1 : Int)))) (AVal.int IntKind.i64 (↑no : Int))) 1 Tag.ro], AVal.slice [AVal.agg [AVal.int IntKind.i64 g, AVal.slice (List.take 3 (List.drop 0 (strv es))) 1 Tag.full, AVal.bool false], AVal.agg [AVal.int IntKind.i64 (↑no : Int), AVal.slice (List.take (Int.toNat (↑(List.length (strv es)) : Int) - 3) (List.drop 3 (strv es))) 1 Tag.ro, AVal.bool false]] 3 Tag.full, AVal.int IntKind.i64 (0 : Int)]) (Sto.set (Sto.del (Sto.del (Sto.del (Sto.set (Sto.set (Sto.pushRow (Sto.pushRow (Sto.pushRow (Sto.push (Sto.push (Sto.push Sto.empty (AObj.cells c)) (AObj.cells [AVal.slice [] 0 Tag.nil, AVal.slice [] 0 Tag.nil])) (AObj.cells [AVal.int IntKind.i64 (0 : Int), AVal.slice [] 0 Tag.nil, AVal.bool false])) (strv a) 1) (iv b) 1) (strv xs) 1) 1 (AObj.cells c1)) 2 (AObj.cells c2)) 7) 3) 5) 0 (AObj.cells (setRange c 0 [AVal.slice (insC (strv a) (Int.toNat (↑y : Int)) (AVal.str (AVal.strOf (List.getD (elemAt (List.take (Int.toNat (↑(List.length (strv es)) : Int) - 3) (List.drop 3 (strv es))) (0 : Int)) 0 AVal.undef)))) 1 Tag.ro, AVal.slice (insC (iv b) (Int.toNat (IntKind.wrap IntKind.i64 ((↑y : Int) + (1 : Int)))) (AVal.int IntKind.i64 (↑no : Int))) 1 Tag.ro]))))))))))))) := by kernel_rfl
theorem remove_r (r : Root) (l : Lf) (s : Txt) (Q : AVal → Sto → Prop) : vc Try.prog cRemove code_18_ (endK Try.prog Try.f18.results.toList Q) (St.start Try.f18.ntmps [rootV r, lfV l, .str s] (Sto.empty)) =
  (brV (hold (ownB (List.map AVal.strOf (strv (Prod.fst r)), List.map AVal.intOf (iv (Prod.snd r))) (Prod.fst l, List.map AVal.strOf (strv (Prod.fst (Prod.snd l))), Prod.snd (Prod.snd l)) s)) true (gb (rootM (AVal.agg [AVal.slice (strv (Prod.fst r)) 1 Tag.ro, AVal.slice (iv (Prod.snd r)) 1 Tag.ro]) && (lfM (AVal.agg [AVal.int IntKind.i64 (Prod.fst l), AVal.slice (strv (Prod.fst (Prod.snd l))) 1 Tag.ro, AVal.bool (Prod.snd (Prod.snd l))]) && isR (Sto.push Sto.empty (AObj.cells [AVal.slice [] 0 Tag.nil, AVal.slice [] 0 Tag.nil])))) (∀ (y : Nat), y = posN (List.map AVal.strOf (strv (List.map AVal.strOf (strv (Prod.fst (Prod.snd l)))))) s → ∀ (y_1 : Bool), y_1 = List.contains (List.map AVal.strOf (strv (List.map AVal.strOf (strv (Prod.fst (Prod.snd l)))))) s → gb (Nat.beq (7 + 1) (7 + 1) && (hold (decide (List.length (strv (List.map AVal.strOf (strv (Prod.fst (Prod.snd l))))) = List.length (strv (List.map AVal.strOf (strv (Prod.fst (Prod.snd l))))))) && (noOutL 0 (strv (List.map AVal.strOf (strv (Prod.fst (Prod.snd l))))) && noTokL 0 (strv (List.map AVal.strOf (strv (Prod.fst (Prod.snd l))))))) && true && (List.all (strv (List.map AVal.strOf (strv (Prod.fst (Prod.snd l))))) strIs && (hold (riseL (List.map AVal.strOf (strv (List.map AVal.strOf (strv (Prod.fst (Prod.snd l))))))) && lenOk (List.length (strv (List.map AVal.strOf (strv (Prod.fst (Prod.snd l))))))) && true)) (brV (hold false) true (Q (AVal.tuple [AVal.agg [AVal.slice [] 0 Tag.nil, AVal.slice [] 0 Tag.nil], AVal.slice [] 0 Tag.nil, AVal.int IntKind.i64 (0 : Int)]) (Sto.set (Sto.set (Sto.set (Sto.pushRow (Sto.pushRow (Sto.pushRow (Sto.push (Sto.push (Sto.push Sto.empty (AObj.cells [AVal.slice [] 0 Tag.nil, AVal.slice [] 0 Tag.nil])) (AObj.cells [AVal.slice [] 0 Tag.nil, AVal.slice [] 0 Tag.nil])) (AObj.cells [AVal.int IntKind.i64 (0 : Int), AVal.slice [] 0 Tag.nil, AVal.bool false])) (strv (List.map AVal.strOf (strv (Prod.fst r)))) 1) (iv (List.map AVal.intOf (iv (Prod.snd r)))) 1) (strv (List.map AVal.strOf (strv (Prod.fst (Prod.snd l))))) 1) 1 (AObj.cells [AVal.mrow 3 (List.length (strv (List.map AVal.strOf (strv (Prod.fst r))))), AVal.mrow 5 (List.length (iv (List.map AVal.intOf (iv (Prod.snd r)))))])) 2 (AObj.cells [AVal.int IntKind.i64 (Prod.fst l), AVal.mrow 7 (List.length (strv (List.map AVal.strOf (strv (Prod.fst (Prod.snd l)))))), AVal.bool false])) 0 (AObj.cells [AVal.slice [] 0 Tag.nil, AVal.slice [] 0 Tag.nil]))) (brV (!hold y_1) true (Q (AVal.tuple [AVal.agg [AVal.slice [] 0 Tag.nil, AVal.slice [] 0 Tag.nil], AVal.slice [] 0 Tag.nil, AVal.int IntKind.i64 (101 : Int)]) (Sto.set (Sto.set (Sto.set (Sto.pushRow (Sto.pushRow (Sto.pushRow (Sto.push (Sto.push (Sto.push Sto.empty (AObj.cells [AVal.slice [] 0 Tag.nil, AVal.slice [] 0 Tag.nil])) (AObj.cells [AVal.slice [] 0 Tag.nil, AVal.slice [] 0 Tag.nil])) (AObj.cells [AVal.int IntKind.i64 (0 : Int), AVal.slice [] 0 Tag.nil, AVal.bool false])) (strv (List.map AVal.strOf (strv (Prod.fst r)))) 1) (iv (List.map AVal.intOf (iv (Prod.snd r)))) 1) (strv (List.map AVal.strOf (strv (Prod.fst (Prod.snd l))))) 1) 1 (AObj.cells [AVal.mrow 3 (List.length (strv (List.map AVal.strOf (strv (Prod.fst r))))), AVal.mrow 5 (List.length (iv (List.map AVal.intOf (iv (Prod.snd r)))))])) 2 (AObj.cells [AVal.int IntKind.i64 (Prod.fst l), AVal.mrow 7 (List.length (strv (List.map AVal.strOf (strv (Prod.fst (Prod.snd l)))))), AVal.bool false])) 0 (AObj.cells [AVal.slice [] 0 Tag.nil, AVal.slice [] 0 Tag.nil]))) (gb (Nat.beq (7 + 1) (7 + 1) && (List.all (strv (List.map AVal.strOf (strv (Prod.fst (Prod.snd l))))) strIs && hold (decide (List.length (strv (List.map AVal.strOf (strv (Prod.fst (Prod.snd l))))) = List.length (strv (List.map AVal.strOf (strv (Prod.fst (Prod.snd l))))) ∧ (0 : Int) ≤ (↑y : Int) ∧ (↑y : Int) < (↑(List.length (strv (List.map AVal.strOf (strv (Prod.fst (Prod.snd l)))))) : Int) ∧ IntKind.wrap IntKind.i64 ((↑y : Int) + (1 : Int)) = (↑y : Int) + (1 : Int) ∧ List.length (strv (List.map AVal.strOf (strv (Prod.fst (Prod.snd l))))) ≤ 1000000)))) (brV (hold (decide ((0 : Int) < (↑(List.length (delC (strv (List.map AVal.strOf (strv (Prod.fst (Prod.snd l))))) (Int.toNat (↑y : Int)))) : Int)))) false (brV (hold ((↑(List.length (iv (List.map AVal.intOf (iv (Prod.snd r))))) : Int) == (1 : Int))) true (Q (AVal.tuple [AVal.agg [AVal.mrow 3 (List.length (strv (List.map AVal.strOf (strv (Prod.fst r))))), AVal.mrow 5 (List.length (iv (List.map AVal.intOf (iv (Prod.snd r)))))], AVal.slice [AVal.agg [AVal.int IntKind.i64 (Prod.fst l), AVal.slice (delC (strv (List.map AVal.strOf (strv (Prod.fst (Prod.snd l))))) (Int.toNat (↑y : Int))) 1 Tag.ro, AVal.bool false]] 3 Tag.full, AVal.int IntKind.i64 (0 : Int)]) (Sto.set (Sto.del (Sto.set (Sto.set (Sto.pushRow (Sto.pushRow (Sto.pushRow (Sto.push (Sto.push (Sto.push Sto.empty (AObj.cells [AVal.slice [] 0 Tag.nil, AVal.slice [] 0 Tag.nil])) (AObj.cells [AVal.slice [] 0 Tag.nil, AVal.slice [] 0 Tag.nil])) (AObj.cells [AVal.int IntKind.i64 (0 : Int), AVal.slice [] 0 Tag.nil, AVal.bool false])) (strv (List.map AVal.strOf (strv (Prod.fst r)))) 1) (iv (List.map AVal.intOf (iv (Prod.snd r)))) 1) (strv (List.map AVal.strOf (strv (Prod.fst (Prod.snd l))))) 1) 1 (AObj.cells [AVal.mrow 3 (List.length (strv (List.map AVal.strOf (strv (Prod.fst r))))), AVal.mrow 5 (List.length (iv (List.map AVal.intOf (iv (Prod.snd r)))))])) 2 (AObj.cells [AVal.int IntKind.i64 (Prod.fst l), AVal.mrow 7 (List.length (strv (List.map AVal.strOf (strv (Prod.fst (Prod.snd l)))))), AVal.bool false])) 7) 0 (AObj.cells [AVal.mrow 3 (List.length (strv (List.map AVal.strOf (strv (Prod.fst r))))), AVal.mrow 5 (List.length (iv (List.map AVal.intOf (iv (Prod.snd r)))))]))) (cutV (vc Try.prog cRemove code_18_1_1_1_1_1_1 (endK Try.prog (Array.toList (Go.Func.results Try.f18)) Q)) (St.mk 85 [(2, AVal.str s), (3, AVal.ptr (Oid.loc 3) 0), (4, AVal.ptr (Oid.loc 4) 0), (6, AVal.ptr (Oid.out 0) 0)] [] [(3, AObj.cells [AVal.mrow 3 (List.length (strv (List.map AVal.strOf (strv (Prod.fst r))))), AVal.mrow 5 (List.length (iv (List.map AVal.intOf (iv (Prod.snd r)))))]), (4, AObj.cells [AVal.int IntKind.i64 (Prod.fst l), AVal.slice (delC (strv (List.map AVal.strOf (strv (Prod.fst (Prod.snd l))))) (Int.toNat (↑y : Int))) 1 Tag.ro, AVal.bool false])] (Sto.del (Sto.set (Sto.set (Sto.pushRow (Sto.pushRow (Sto.pushRow (Sto.push (Sto.push (Sto.push Sto.empty (AObj.cells [AVal.slice [] 0 Tag.nil, AVal.slice [] 0 Tag.nil])) (AObj.cells [AVal.slice [] 0 Tag.nil, AVal.slice [] 0 Tag.nil])) (AObj.cells [AVal.int IntKind.i64 (0 : Int), AVal.slice [] 0 Tag.nil, AVal.bool false])) (strv (List.map AVal.strOf (strv (Prod.fst r)))) 1) (iv (List.map AVal.intOf (iv (Prod.snd r)))) 1) (strv (List.map AVal.strOf (strv (Prod.fst (Prod.snd l))))) 1) 1 (AObj.cells [AVal.mrow 3 (List.length (strv (List.map AVal.strOf (strv (Prod.fst r))))), AVal.mrow 5 (List.length (iv (List.map AVal.intOf (iv (Prod.snd r)))))])) 2 (AObj.cells [AVal.int IntKind.i64 (Prod.fst l), AVal.mrow 7 (List.length (strv (List.map AVal.strOf (strv (Prod.fst (Prod.snd l)))))), AVal.bool false])) 7)))) (Q (AVal.tuple [AVal.agg [AVal.mrow 3 (List.length (strv (List.map AVal.strOf (strv (Prod.fst r))))), AVal.mrow 5 (List.length (iv (List.map AVal.intOf (iv (Prod.snd r)))))], AVal.slice [AVal.agg [AVal.int IntKind.i64 (Prod.fst l), AVal.slice (delC (strv (List.map AVal.strOf (strv (Prod.fst (Prod.snd l))))) (Int.toNat (↑y : Int))) 1 Tag.ro, AVal.bool false]] 3 Tag.full, AVal.int IntKind.i64 (0 : Int)]) (Sto.set (Sto.del (Sto.set (Sto.set (Sto.pushRow (Sto.pushRow (Sto.pushRow (Sto.push (Sto.push (Sto.push Sto.empty (AObj.cells [AVal.slice [] 0 Tag.nil, AVal.slice [] 0 Tag.nil])) (AObj.cells [AVal.slice [] 0 Tag.nil, AVal.slice [] 0 Tag.nil])) (AObj.cells [AVal.int IntKind.i64 (0 : Int), AVal.slice [] 0 Tag.nil, AVal.bool false])) (strv (List.map AVal.strOf (strv (Prod.fst r)))) 1) (iv (List.map AVal.intOf (iv (Prod.snd r)))) 1) (strv (List.map AVal.strOf (strv (Prod.fst (Prod.snd l))))) 1) 1 (AObj.cells [AVal.mrow 3 (List.length (strv (List.map AVal.strOf (strv (Prod.fst r))))), AVal.mrow 5 (List.length (iv (List.map AVal.intOf (iv (Prod.snd r)))))])) 2 (AObj.cells [AVal.int IntKind.i64 (Prod.fst l), AVal.mrow 7 (List.length (strv (List.map AVal.strOf (strv (Prod.fst (Prod.snd l)))))), AVal.bool false])) 7) 0 (AObj.cells [AVal.mrow 3 (List.length (strv (List.map AVal.strOf (strv (Prod.fst r))))), AVal.mrow 5 (List.length (iv (List.map AVal.intOf (iv (Prod.snd r)))))]))))))))) (gb (rootM (AVal.agg [AVal.slice (strv (Prod.fst r)) 1 Tag.ro, AVal.slice (iv (Prod.snd r)) 1 Tag.ro]) && (lfM (AVal.agg [AVal.int IntKind.i64 (Prod.fst l), AVal.slice (strv (Prod.fst (Prod.snd l))) 1 Tag.ro, AVal.bool (Prod.snd (Prod.snd l))]) && isR (Sto.push Sto.empty (AObj.cells [AVal.slice [] 0 Tag.nil, AVal.slice [] 0 Tag.nil])))) (∀ (y : Nat), y = 0 → ∀ (y : Bool), y = List.contains [] s → gb (hold true && lenOk 0) (brV (hold true) true (Q (AVal.tuple [AVal.agg [AVal.slice [] 0 Tag.nil, AVal.slice [] 0 Tag.nil], AVal.slice [] 0 Tag.nil, AVal.int IntKind.i64 (100 : Int)]) (Sto.set (Sto.set (Sto.set (Sto.push (Sto.push (Sto.push Sto.empty (AObj.cells [AVal.slice [] 0 Tag.nil, AVal.slice [] 0 Tag.nil])) (AObj.cells [AVal.slice [] 0 Tag.nil, AVal.slice [] 0 Tag.nil])) (AObj.cells [AVal.int IntKind.i64 (0 : Int), AVal.slice [] 0 Tag.nil, AVal.bool false])) 1 (AObj.cells [AVal.slice [] 0 Tag.nil, AVal.slice [] 0 Tag.nil])) 2 (AObj.cells [AVal.int IntKind.i64 (0 : Int), AVal.slice [] 0 Tag.nil, AVal.bool false])) 0 (AObj.cells [AVal.slice [] 0 Tag.nil, AVal.slice [] 0 Tag.nil]))) (brV (!hold y) true (Q (AVal.tuple [AVal.agg [AVal.slice [] 0 Tag.nil, AVal.slice [] 0 Tag.nil], AVal.slice [] 0 Tag.nil, AVal.int IntKind.i64 (101 : Int)]) (Sto.set (Sto.set (Sto.set (Sto.push (Sto.push (Sto.push Sto.empty (AObj.cells [AVal.slice [] 0 Tag.nil, AVal.slice [] 0 Tag.nil])) (AObj.cells [AVal.slice [] 0 Tag.nil, AVal.slice [] 0 Tag.nil])) (AObj.cells [AVal.int IntKind.i64 (0 : Int), AVal.slice [] 0 Tag.nil, AVal.bool false])) 1 (AObj.cells [AVal.slice [] 0 Tag.nil, AVal.slice [] 0 Tag.nil])) 2 (AObj.cells [AVal.int IntKind.i64 (0 : Int), AVal.slice [] 0 Tag.nil, AVal.bool false])) 0 (AObj.cells [AVal.slice [] 0 Tag.nil, AVal.slice [] 0 Tag.nil]))) (gb false (brV (hold false) false (brV (hold false) true (Q (AVal.tuple [AVal.agg [AVal.slice [] 0 Tag.nil, AVal.slice [] 0 Tag.nil], AVal.slice [AVal.agg [AVal.int IntKind.i64 (0 : Int), AVal.slice [] 1 Tag.ro, AVal.bool false]] 3 Tag.full, AVal.int IntKind.i64 (0 : Int)]) (Sto.set (Sto.set (Sto.set (Sto.push (Sto.push (Sto.push Sto.empty (AObj.cells [AVal.slice [] 0 Tag.nil, AVal.slice [] 0 Tag.nil])) (AObj.cells [AVal.slice [] 0 Tag.nil, AVal.slice [] 0 Tag.nil])) (AObj.cells [AVal.int IntKind.i64 (0 : Int), AVal.slice [] 0 Tag.nil, AVal.bool false])) 1 (AObj.cells [AVal.slice [] 0 Tag.nil, AVal.slice [] 0 Tag.nil])) 2 (AObj.cells [AVal.int IntKind.i64 (0 : Int), AVal.slice [] 0 Tag.nil, AVal.bool false])) 0 (AObj.cells [AVal.slice [] 0 Tag.nil, AVal.slice [] 0 Tag.nil]))) (cutV (vc Try.prog cRemove code_18_1_1_1_1_1_1 (endK Try.prog (Array.toList (Go.Func.results Try.f18)) Q)) (St.mk 85 [(2, AVal.str s), (3, AVal.ptr (Oid.loc 3) 0), (4, AVal.ptr (Oid.loc 4) 0), (6, AVal.ptr (Oid.out 0) 0)] [] [(3, AObj.cells [AVal.slice [] 0 Tag.nil, AVal.slice [] 0 Tag.nil]), (4, AObj.cells [AVal.int IntKind.i64 (0 : Int), AVal.slice [] 1 Tag.ro, AVal.bool false])] (Sto.set (Sto.set (Sto.push (Sto.push (Sto.push Sto.empty (AObj.cells [AVal.slice [] 0 Tag.nil, AVal.slice [] 0 Tag.nil])) (AObj.cells [AVal.slice [] 0 Tag.nil, AVal.slice [] 0 Tag.nil])) (AObj.cells [AVal.int IntKind.i64 (0 : Int), AVal.slice [] 0 Tag.nil, AVal.bool false])) 1 (AObj.cells [AVal.slice [] 0 Tag.nil, AVal.slice [] 0 Tag.nil])) 2 (AObj.cells [AVal.int IntKind.i64 (0 : Int), AVal.slice [] 0 Tag.nil, AVal.bool false]))))) (Q (AVal.tuple [AVal.agg [AVal.slice [] 0 Tag.nil, AVal.slice [] 0 Tag.nil], AVal.slice [AVal.agg [AVal.int IntKind.i64 (0 : Int), AVal.slice [] 1 Tag.ro, AVal.bool false]] 3 Tag.full, AVal.int IntKind.i64 (0 : Int)]) (Sto.set (Sto.set (Sto.set (Sto.push (Sto.push (Sto.push Sto.empty (AObj.cells [AVal.slice [] 0 Tag.nil, AVal.slice [] 0 Tag.nil])) (AObj.cells [AVal.slice [] 0 Tag.nil, AVal.slice [] 0 Tag.nil])) (AObj.cells [AVal.int IntKind.i64 (0 : Int), AVal.slice [] 0 Tag.nil, AVal.bool false])) 1 (AObj.cells [AVal.slice [] 0 Tag.nil, AVal.slice [] 0 Tag.nil])) 2 (AObj.cells [AVal.int IntKind.i64 (0 : Int), AVal.slice [] 0 Tag.nil, AVal.bool false])) 0 (AObj.cells [AVal.slice [] 0 Tag.nil, AVal.slice [] 0 Tag.nil])))))))))) := by kernel_rfl
theorem remove_i (r : Root) (l : Lf) (s : Txt) (Q : AVal → Sto → Prop) (ho : OrcOk Try.prog cRemove) (h : brV (hold (ownB (List.map AVal.strOf (strv (Prod.fst r)), List.map AVal.intOf (iv (Prod.snd r))) (Prod.fst l, List.map AVal.strOf (strv (Prod.fst (Prod.snd l))), Prod.snd (Prod.snd l)) s)) true (gb (rootM (AVal.agg [AVal.slice (strv (Prod.fst r)) 1 Tag.ro, AVal.slice (iv (Prod.snd r)) 1 Tag.ro]) && (lfM (AVal.agg [AVal.int IntKind.i64 (Prod.fst l), AVal.slice (strv (Prod.fst (Prod.snd l))) 1 Tag.ro, AVal.bool (Prod.snd (Prod.snd l))]) && isR (Sto.push Sto.empty (AObj.cells [AVal.slice [] 0 Tag.nil, AVal.slice [] 0 Tag.nil])))) (∀ (y : Nat), y = posN (List.map AVal.strOf (strv (List.map AVal.strOf (strv (Prod.fst (Prod.snd l)))))) s → ∀ (y_1 : Bool), y_1 = List.contains (List.map AVal.strOf (strv (List.map AVal.strOf (strv (Prod.fst (Prod.snd l)))))) s → gb (Nat.beq (7 + 1) (7 + 1) && (hold (decide (List.length (strv (List.map AVal.strOf (strv (Prod.fst (Prod.snd l))))) = List.length (strv (List.map AVal.strOf (strv (Prod.fst (Prod.snd l))))))) && (noOutL 0 (strv (List.map AVal.strOf (strv (Prod.fst (Prod.snd l))))) && noTokL 0 (strv (List.map AVal.strOf (strv (Prod.fst (Prod.snd l))))))) && true && (List.all (strv (List.map AVal.strOf (strv (Prod.fst (Prod.snd l))))) strIs && (hold (riseL (List.map AVal.strOf (strv (List.map AVal.strOf (strv (Prod.fst (Prod.snd l))))))) && lenOk (List.length (strv (List.map AVal.strOf (strv (Prod.fst (Prod.snd l))))))) && true)) (brV (hold false) true (Q (AVal.tuple [AVal.agg [AVal.slice [] 0 Tag.nil, AVal.slice [] 0 Tag.nil], AVal.slice [] 0 Tag.nil, AVal.int IntKind.i64 (0 : Int)]) (Sto.set (Sto.set (Sto.set (Sto.pushRow (Sto.pushRow (Sto.pushRow (Sto.push (Sto.push (Sto.push Sto.empty (AObj.cells [AVal.slice [] 0 Tag.nil, AVal.slice [] 0 Tag.nil])) (AObj.cells [AVal.slice [] 0 Tag.nil, AVal.slice [] 0 Tag.nil])) (AObj.cells [AVal.int IntKind.i64 (0 : Int), AVal.slice [] 0 Tag.nil, AVal.bool false])) (strv (List.map AVal.strOf (strv (Prod.fst r)))) 1) (iv (List.map AVal.intOf (iv (Prod.snd r)))) 1) (strv (List.map AVal.strOf (strv (Prod.fst (Prod.snd l))))) 1) 1 (AObj.cells [AVal.mrow 3 (List.length (strv (List.map AVal.strOf (strv (Prod.fst r))))), AVal.mrow 5 (List.length (iv (List.map AVal.intOf (iv (Prod.snd r)))))])) 2 (AObj.cells [AVal.int IntKind.i64 (Prod.fst l), AVal.mrow 7 (List.length (strv (List.map AVal.strOf (strv (Prod.fst (Prod.snd l)))))), AVal.bool false])) 0 (AObj.cells [AVal.slice [] 0 Tag.nil, AVal.slice [] 0 Tag.nil]))) (brV (!hold y_1) true (Q (AVal.tuple [AVal.agg [AVal.slice [] 0 Tag.nil, AVal.slice [] 0 Tag.nil], AVal.slice [] 0 Tag.nil, AVal.int IntKind.i64 (101 : Int)]) (Sto.set (Sto.set (Sto.set (Sto.pushRow (Sto.pushRow (Sto.pushRow (Sto.push (Sto.push (Sto.push Sto.empty (AObj.cells [AVal.slice [] 0 Tag.nil, AVal.slice [] 0 Tag.nil])) (AObj.cells [AVal.slice [] 0 Tag.nil, AVal.slice [] 0 Tag.nil])) (AObj.cells [AVal.int IntKind.i64 (0 : Int), AVal.slice [] 0 Tag.nil, AVal.bool false])) (strv (List.map AVal.strOf (strv (Prod.fst r)))) 1) (iv (List.map AVal.intOf (iv (Prod.snd r)))) 1) (strv (List.map AVal.strOf (strv (Prod.fst (Prod.snd l))))) 1) 1 (AObj.cells [AVal.mrow 3 (List.length (strv (List.map AVal.strOf (strv (Prod.fst r))))), AVal.mrow 5 (List.length (iv (List.map AVal.intOf (iv (Prod.snd r)))))])) 2 (AObj.cells [AVal.int IntKind.i64 (Prod.fst l), AVal.mrow 7 (List.length (strv (List.map AVal.strOf (strv (Prod.fst (Prod.snd l)))))), AVal.bool false])) 0 (AObj.cells [AVal.slice [] 0 Tag.nil, AVal.slice [] 0 Tag.nil]))) (gb (Nat.beq (7 + 1) (7 + 1) && (List.all (strv (List.map AVal.strOf (strv (Prod.fst (Prod.snd l))))) strIs && hold (decide (List.length (strv (List.map AVal.strOf (strv (Prod.fst (Prod.snd l))))) = List.length (strv (List.map AVal.strOf (strv (Prod.fst (Prod.snd l))))) ∧ (0 : Int) ≤ (↑y : Int) ∧ (↑y : Int) < (↑(List.length (strv (List.map AVal.strOf (strv (Prod.fst (Prod.snd l)))))) : Int) ∧ IntKind.wrap IntKind.i64 ((↑y : Int) + (1 : Int)) = (↑y : Int) + (1 : Int) ∧ List.length (strv (List.map AVal.strOf (strv (Prod.fst (Prod.snd l))))) ≤ 1000000)))) (brV (hold (decide ((0 : Int) < (↑(List.length (delC (strv (List.map AVal.strOf (strv (Prod.fst (Prod.snd l))))) (Int.toNat (↑y : Int)))) : Int)))) false (brV (hold ((↑(List.length (iv (List.map AVal.intOf (iv (Prod.snd r))))) : Int) == (1 : Int))) true (Q (AVal.tuple [AVal.agg [AVal.mrow 3 (List.length (strv (List.map AVal.strOf (strv (Prod.fst r))))), AVal.mrow 5 (List.length (iv (List.map AVal.intOf (iv (Prod.snd r)))))], AVal.slice [AVal.agg [AVal.int IntKind.i64 (Prod.fst l), AVal.slice (delC (strv (List.map AVal.strOf (strv (Prod.fst (Prod.snd l))))) (Int.toNat (↑y : Int))) 1 Tag.ro, AVal.bool false]] 3 Tag.full, AVal.int IntKind.i64 (0 : Int)]) (Sto.set (Sto.del (Sto.set (Sto.set (Sto.pushRow (Sto.pushRow (Sto.pushRow (Sto.push (Sto.push (Sto.push Sto.empty (AObj.cells [AVal.slice [] 0 Tag.nil, AVal.slice [] 0 Tag.nil])) (AObj.cells [AVal.slice [] 0 Tag.nil, AVal.slice [] 0 Tag.nil])) (AObj.cells [AVal.int IntKind.i64 (0 : Int), AVal.slice [] 0 Tag.nil, AVal.bool false])) (strv (List.map AVal.strOf (strv (Prod.fst r)))) 1) (iv (List.map AVal.intOf (iv (Prod.snd r)))) 1) (strv (List.map AVal.strOf (strv (Prod.fst (Prod.snd l))))) 1) 1 (AObj.cells [AVal.mrow 3 (List.length (strv (List.map AVal.strOf (strv (Prod.fst r))))), AVal.mrow 5 (List.length (iv (List.map AVal.intOf (iv (Prod.snd r)))))])) 2 (AObj.cells [AVal.int IntKind.i64 (Prod.fst l), AVal.mrow 7 (List.length (strv (List.map AVal.strOf (strv (Prod.fst (Prod.snd l)))))), AVal.bool false])) 7) 0 (AObj.cells [AVal.mrow 3 (List.length (strv (List.map AVal.strOf (strv (Prod.fst r))))), AVal.mrow 5 (List.length (iv (List.map AVal.intOf (iv (Prod.snd r)))))]))) (cutV (vc Try.prog cRemove code_18_1_1_1_1_1_1 (endK Try.prog (Array.toList (Go.Func.results Try.f18)) Q)) (St.mk 85 [(2, AVal.str s), (3, AVal.ptr (Oid.loc 3) 0), (4, AVal.ptr (Oid.loc 4) 0), (6, AVal.ptr (Oid.out 0) 0)] [] [(3, AObj.cells [AVal.mrow 3 (List.length (strv (List.map AVal.strOf (strv (Prod.fst r))))), AVal.mrow 5 (List.length (iv (List.map AVal.intOf (iv (Prod.snd r)))))]), (4, AObj.cells [AVal.int IntKind.i64 (Prod.fst l), AVal.slice (delC (strv (List.map AVal.strOf (strv (Prod.fst (Prod.snd l))))) (Int.toNat (↑y : Int))) 1 Tag.ro, AVal.bool false])] (Sto.del (Sto.set (Sto.set (Sto.pushRow (Sto.pushRow (Sto.pushRow (Sto.push (Sto.push (Sto.push Sto.empty (AObj.cells [AVal.slice [] 0 Tag.nil, AVal.slice [] 0 Tag.nil])) (AObj.cells [AVal.slice [] 0 Tag.nil, AVal.slice [] 0 Tag.nil])) (AObj.cells [AVal.int IntKind.i64 (0 : Int), AVal.slice [] 0 Tag.nil, AVal.bool false])) (strv (List.map AVal.strOf (strv (Prod.fst r)))) 1) (iv (List.map AVal.intOf (iv (Prod.snd r)))) 1) (strv (List.map AVal.strOf (strv (Prod.fst (Prod.snd l))))) 1) 1 (AObj.cells [AVal.mrow 3 (List.length (strv (List.map AVal.strOf (strv (Prod.fst r))))), AVal.mrow 5 (List.length (iv (List.map AVal.intOf (iv (Prod.snd r)))))])) 2 (AObj.cells [AVal.int IntKind.i64 (Prod.fst l), AVal.mrow 7 (List.length (strv (List.map AVal.strOf (strv (Prod.fst (Prod.snd l)))))), AVal.bool false])) 7)))) (Q (AVal.tuple [AVal.agg [AVal.mrow 3 (List.length (strv (List.map AVal.strOf (strv (Prod.fst r))))), AVal.mrow 5 (List.length (iv (List.map AVal.intOf (iv (Prod.snd r)))))], AVal.slice [AVal.agg [AVal.int IntKind.i64 (Prod.fst l), AVal.slice (delC (strv (List.map AVal.strOf (strv (Prod.fst (Prod.snd l))))) (Int.toNat (↑y : Int))) 1 Tag.ro, AVal.bool false]] 3 Tag.full, AVal.int IntKind.i64 (0 : Int)]) (Sto.set (Sto.del (Sto.set (Sto.set (Sto.pushRow (Sto.pushRow (Sto.pushRow (Sto.push (Sto.push (Sto.push Sto.empty (AObj.cells [AVal.slice [] 0 Tag.nil, AVal.slice [] 0 Tag.nil])) (AObj.cells [AVal.slice [] 0 Tag.nil, AVal.slice [] 0 Tag.nil])) (AObj.cells [AVal.int IntKind.i64 (0 : Int), AVal.slice [] 0 Tag.nil, AVal.bool false])) (strv (List.map AVal.strOf (strv (Prod.fst r)))) 1) (iv (List.map AVal.intOf (iv (Prod.snd r)))) 1) (strv (List.map AVal.strOf (strv (Prod.fst (Prod.snd l))))) 1) 1 (AObj.cells [AVal.mrow 3 (List.length (strv (List.map AVal.strOf (strv (Prod.fst r))))), AVal.mrow 5 (List.length (iv (List.map AVal.intOf (iv (Prod.snd r)))))])) 2 (AObj.cells [AVal.int IntKind.i64 (Prod.fst l), AVal.mrow 7 (List.length (strv (List.map AVal.strOf (strv (Prod.fst (Prod.snd l)))))), AVal.bool false])) 7) 0 (AObj.cells [AVal.mrow 3 (List.length (strv (List.map AVal.strOf (strv (Prod.fst r))))), AVal.mrow 5 (List.length (iv (List.map AVal.intOf (iv (Prod.snd r)))))]))))))))) (gb (rootM (AVal.agg [AVal.slice (strv (Prod.fst r)) 1 Tag.ro, AVal.slice (iv (Prod.snd r)) 1 Tag.ro]) && (lfM (AVal.agg [AVal.int IntKind.i64 (Prod.fst l), AVal.slice (strv (Prod.fst (Prod.snd l))) 1 Tag.ro, AVal.bool (Prod.snd (Prod.snd l))]) && isR (Sto.push Sto.empty (AObj.cells [AVal.slice [] 0 Tag.nil, AVal.slice [] 0 Tag.nil])))) (∀ (y : Nat), y = 0 → ∀ (y : Bool), y = List.contains [] s → gb (hold true && lenOk 0) (brV (hold true) true (Q (AVal.tuple [AVal.agg [AVal.slice [] 0 Tag.nil, AVal.slice [] 0 Tag.nil], AVal.slice [] 0 Tag.nil, AVal.int IntKind.i64 (100 : Int)]) (Sto.set (Sto.set (Sto.set (Sto.push (Sto.push (Sto.push Sto.empty (AObj.cells [AVal.slice [] 0 Tag.nil, AVal.slice [] 0 Tag.nil])) (AObj.cells [AVal.slice [] 0 Tag.nil, AVal.slice [] 0 Tag.nil])) (AObj.cells [AVal.int IntKind.i64 (0 : Int), AVal.slice [] 0 Tag.nil, AVal.bool false])) 1 (AObj.cells [AVal.slice [] 0 Tag.nil, AVal.slice [] 0 Tag.nil])) 2 (AObj.cells [AVal.int IntKind.i64 (0 : Int), AVal.slice [] 0 Tag.nil, AVal.bool false])) 0 (AObj.cells [AVal.slice [] 0 Tag.nil, AVal.slice [] 0 Tag.nil]))) (brV (!hold y) true (Q (AVal.tuple [AVal.agg [AVal.slice [] 0 Tag.nil, AVal.slice [] 0 Tag.nil], AVal.slice [] 0 Tag.nil, AVal.int IntKind.i64 (101 : Int)]) (Sto.set (Sto.set (Sto.set (Sto.push (Sto.push (Sto.push Sto.empty (AObj.cells [AVal.slice [] 0 Tag.nil, AVal.slice [] 0 Tag.nil])) (AObj.cells [AVal.slice [] 0 Tag.nil, AVal.slice [] 0 Tag.nil])) (AObj.cells [AVal.int IntKind.i64 (0 : Int), AVal.slice [] 0 Tag.nil, AVal.bool false])) 1 (AObj.cells [AVal.slice [] 0 Tag.nil, AVal.slice [] 0 Tag.nil])) 2 (AObj.cells [AVal.int IntKind.i64 (0 : Int), AVal.slice [] 0 Tag.nil, AVal.bool false])) 0 (AObj.cells [AVal.slice [] 0 Tag.nil, AVal.slice [] 0 Tag.nil]))) (gb false (brV (hold false) false (brV (hold false) true (Q (AVal.tuple [AVal.agg [AVal.slice [] 0 Tag.nil, AVal.slice [] 0 Tag.nil], AVal.slice [AVal.agg [AVal.int IntKind.i64 (0 : Int), AVal.slice [] 1 Tag.ro, AVal.bool false]] 3 Tag.full, AVal.int IntKind.i64 (0 : Int)]) (Sto.set (Sto.set (Sto.set (Sto.push (Sto.push (Sto.push Sto.empty (AObj.cells [AVal.slice [] 0 Tag.nil, AVal.slice [] 0 Tag.nil])) (AObj.cells [AVal.slice [] 0 Tag.nil, AVal.slice [] 0 Tag.nil])) (AObj.cells [AVal.int IntKind.i64 (0 : Int), AVal.slice [] 0 Tag.nil, AVal.bool false])) 1 (AObj.cells [AVal.slice [] 0 Tag.nil, AVal.slice [] 0 Tag.nil])) 2 (AObj.cells [AVal.int IntKind.i64 (0 : Int), AVal.slice [] 0 Tag.nil, AVal.bool false])) 0 (AObj.cells [AVal.slice [] 0 Tag.nil, AVal.slice [] 0 Tag.nil]))) (cutV (vc Try.prog cRemove code_18_1_1_1_1_1_1 (endK Try.prog (Array.toList (Go.Func.results Try.f18)) Q)) (St.mk 85 [(2, AVal.str s), (3, AVal.ptr (Oid.loc 3) 0), (4, AVal.ptr (Oid.loc 4) 0), (6, AVal.ptr (Oid.out 0) 0)] [] [(3, AObj.cells [AVal.slice [] 0 Tag.nil, AVal.slice [] 0 Tag.nil]), (4, AObj.cells [AVal.int IntKind.i64 (0 : Int), AVal.slice [] 1 Tag.ro, AVal.bool false])] (Sto.set (Sto.set (Sto.push (Sto.push (Sto.push Sto.empty (AObj.cells [AVal.slice [] 0 Tag.nil, AVal.slice [] 0 Tag.nil])) (AObj.cells [AVal.slice [] 0 Tag.nil, AVal.slice [] 0 Tag.nil])) (AObj.cells [AVal.int IntKind.i64 (0 : Int), AVal.slice [] 0 Tag.nil, AVal.bool false])) 1 (AObj.cells [AVal.slice [] 0 Tag.nil, AVal.slice [] 0 Tag.nil])) 2 (AObj.cells [AVal.int IntKind.i64 (0 : Int), AVal.slice [] 0 Tag.nil, AVal.bool false]))))) (Q (AVal.tuple [AVal.agg [AVal.slice [] 0 Tag.nil, AVal.slice [] 0 Tag.nil], AVal.slice [AVal.agg [AVal.int IntKind.i64 (0 : Int), AVal.slice [] 1 Tag.ro, AVal.bool false]] 3 Tag.full, AVal.int IntKind.i64 (0 : Int)]) (Sto.set (Sto.set (Sto.set (Sto.push (Sto.push (Sto.push Sto.empty (AObj.cells [AVal.slice [] 0 Tag.nil, AVal.slice [] 0 Tag.nil])) (AObj.cells [AVal.slice [] 0 Tag.nil, AVal.slice [] 0 Tag.nil])) (AObj.cells [AVal.int IntKind.i64 (0 : Int), AVal.slice [] 0 Tag.nil, AVal.bool false])) 1 (AObj.cells [AVal.slice [] 0 Tag.nil, AVal.slice [] 0 Tag.nil])) 2 (AObj.cells [AVal.int IntKind.i64 (0 : Int), AVal.slice [] 0 Tag.nil, AVal.bool false])) 0 (AObj.cells [AVal.slice [] 0 Tag.nil, AVal.slice [] 0 Tag.nil])))))))))) : ACall Try.prog 18 [rootV r, lfV l, .str s] (Sto.empty) Q :=
  ACall.intro hmix Try.func18 (c := code_18_) (by kernel_rfl) cRemove ho (Nat.le_of_ble_eq_true (by kernel_rfl)) (by rw [remove_r]; exact h)
noncomputable def removeC_S (a : List Txt) (b : List Int) (xs es : List Txt) (g : Int) (n1 n2 : Nat) (s : Txt) (c c1 c2 : List AVal) : St := St.mk 85 [(2, .str s), (3, .ptr (.loc 3) 0), (4, .ptr (.loc 4) 0), (6, .ptr (.out 0) 0)] [] [(3, .cells [.mrow 3 n1, .mrow 5 n2]), (4, .cells [.int .i64 g, .slice (strv es) 1 .ro, .bool false])] (Sto.del (Sto.set (Sto.set (Sto.pushRow (Sto.pushRow (Sto.pushRow (Sto.push (Sto.push (Sto.push Sto.empty (.cells c)) (.cells nilRC)) (.cells nilLC)) (strv a) 1) (iv b) 1) (strv xs) 1) 1 (.cells c1)) 2 (.cells c2)) 7)
theorem removeC_r (a : List Txt) (b : List Int) (xs es : List Txt) (g : Int) (n1 n2 : Nat) (s : Txt) (c c1 c2 : List AVal) (Q : AVal → Sto → Prop) : vc Try.prog cRemove code_18_1_1_1_1_1_1 (endK Try.prog Try.f18.results.toList Q) (St.mk 85 [(2, .str s), (3, .ptr (.loc 3) 0), (4, .ptr (.loc 4) 0), (6, .ptr (.out 0) 0)] [] [(3, .cells [.mrow 3 n1, .mrow 5 n2]), (4, .cells [.int .i64 g, .slice (strv es) 1 .ro, .bool false])] (Sto.del (Sto.set (Sto.set (Sto.pushRow (Sto.pushRow (Sto.pushRow (Sto.push (Sto.push (Sto.push Sto.empty (.cells c)) (.cells nilRC)) (.cells nilLC)) (strv a) 1) (iv b) 1) (strv xs) 1) 1 (.cells c1)) 2 (.cells c2)) 7)) =
  (∀ (y : Nat), y = atN (List.map AVal.strOf (strv a)) s → gb (viewOk (Sto.obj (St.σ (St.mk 85 [(2, AVal.str s), (3, AVal.ptr (Oid.loc 3) 0), (4, AVal.ptr (Oid.loc 4) 0), (6, AVal.ptr (Oid.out 0) 0)] [(58, AVal.str s), (57, AVal.agg [AVal.mrow 3 n1, AVal.mrow 5 n2])] [(3, AObj.cells [AVal.mrow 3 n1, AVal.mrow 5 n2]), (4, AObj.cells [AVal.int IntKind.i64 g, AVal.slice (strv es) 1 Tag.ro, AVal.bool false])] (Sto.del (Sto.set (Sto.set (Sto.pushRow (Sto.pushRow (Sto.pushRow (Sto.push (Sto.push (Sto.push Sto.empty (AObj.cells c)) (AObj.cells [AVal.slice [] 0 Tag.nil, AVal.slice [] 0 Tag.nil])) (AObj.cells [AVal.int IntKind.i64 (0 : Int), AVal.slice [] 0 Tag.nil, AVal.bool false])) (strv a) 1) (iv b) 1) (strv xs) 1) 1 (AObj.cells c1)) 2 (AObj.cells c2)) 7)))) (AVal.agg [AVal.mrow 3 n1, AVal.mrow 5 n2]) && true && (rootG (AVal.agg [AVal.slice (strv a) 1 Tag.ro, AVal.slice (iv b) 1 Tag.ro]) && hold (riseL (List.map AVal.strOf (strv a))) && true)) (gb (Nat.beq (5 + 1) (5 + 1) && (List.all (iv b) isI64 && hold (decide (n2 = List.length (iv b) ∧ (0 : Int) ≤ (↑y : Int) ∧ (↑y : Int) < (↑(List.length (iv b)) : Int) ∧ IntKind.wrap IntKind.i64 ((↑y : Int) + (1 : Int)) = (↑y : Int) + (1 : Int) ∧ List.length (iv b) ≤ 1000000)))) (gb (Nat.beq (3 + 1) (3 + 1) && (List.all (strv a) strIs && hold (decide (n1 = List.length (strv a) ∧ ((0 : Int) ≤ if IntKind.wrap IntKind.i64 ((↑n1 : Int) - (1 : Int)) < (↑y : Int) then IntKind.wrap IntKind.i64 ((↑n1 : Int) - (1 : Int)) else (↑y : Int)) ∧ (if IntKind.wrap IntKind.i64 ((↑n1 : Int) - (1 : Int)) < (↑y : Int) then IntKind.wrap IntKind.i64 ((↑n1 : Int) - (1 : Int)) else (↑y : Int)) < (↑(List.length (strv a)) : Int) ∧ IntKind.wrap IntKind.i64 ((if IntKind.wrap IntKind.i64 ((↑n1 : Int) - (1 : Int)) < (↑y : Int) then IntKind.wrap IntKind.i64 ((↑n1 : Int) - (1 : Int)) else (↑y : Int)) + (1 : Int)) = (if IntKind.wrap IntKind.i64 ((↑n1 : Int) - (1 : Int)) < (↑y : Int) then IntKind.wrap IntKind.i64 ((↑n1 : Int) - (1 : Int)) else (↑y : Int)) + (1 : Int) ∧ List.length (strv a) ≤ 1000000)))) (gb (decide (2 ≤ List.length c ∧ (Oid.isOut (Oid.out 0) = true → noLocL (AVal.cells (St.eval (St.mk 85 [(2, AVal.str s), (3, AVal.ptr (Oid.loc 3) 0), (4, AVal.ptr (Oid.loc 4) 0), (6, AVal.ptr (Oid.out 0) 0), (12, AVal.int IntKind.i64 (if IntKind.wrap IntKind.i64 ((↑n1 : Int) - (1 : Int)) < (↑y : Int) then IntKind.wrap IntKind.i64 ((↑n1 : Int) - (1 : Int)) else (↑y : Int)))] [(84, AVal.slice [AVal.agg [AVal.int IntKind.i64 g, AVal.slice [] 0 Tag.nil, AVal.bool true]] 3 Tag.full), (83, AVal.agg [AVal.int IntKind.i64 g, AVal.slice [] 0 Tag.nil, AVal.bool true]), (82, AVal.int IntKind.i64 g), (81, AVal.ptr (Oid.loc 4) 0), (80, AVal.agg [AVal.slice (delC (strv a) (Int.toNat (if IntKind.wrap IntKind.i64 ((↑n1 : Int) - (1 : Int)) < (↑y : Int) then IntKind.wrap IntKind.i64 ((↑n1 : Int) - (1 : Int)) else (↑y : Int)))) 1 Tag.ro, AVal.slice (delC (iv b) (Int.toNat (↑y : Int))) 1 Tag.ro])] [(3, AObj.cells [AVal.slice (delC (strv a) (Int.toNat (if IntKind.wrap IntKind.i64 ((↑n1 : Int) - (1 : Int)) < (↑y : Int) then IntKind.wrap IntKind.i64 ((↑n1 : Int) - (1 : Int)) else (↑y : Int)))) 1 Tag.ro, AVal.slice (delC (iv b) (Int.toNat (↑y : Int))) 1 Tag.ro]), (4, AObj.cells [AVal.int IntKind.i64 g, AVal.slice (strv es) 1 Tag.ro, AVal.bool false])] (Sto.del (Sto.del (Sto.del (Sto.set (Sto.set (Sto.pushRow (Sto.pushRow (Sto.pushRow (Sto.push (Sto.push (Sto.push Sto.empty (AObj.cells c)) (AObj.cells [AVal.slice [] 0 Tag.nil, AVal.slice [] 0 Tag.nil])) (AObj.cells [AVal.int IntKind.i64 (0 : Int), AVal.slice [] 0 Tag.nil, AVal.bool false])) (strv a) 1) (iv b) 1) (strv xs) 1) 1 (AObj.cells c1)) 2 (AObj.cells c2)) 7) 5) 3)) (Go.Operand.tmp 80))) = true))) (Q (AVal.tuple [AVal.agg [AVal.slice (delC (strv a) (Int.toNat (if IntKind.wrap IntKind.i64 ((↑n1 : Int) - (1 : Int)) < (↑y : Int) then IntKind.wrap IntKind.i64 ((↑n1 : Int) - (1 : Int)) else (↑y : Int)))) 1 Tag.ro, AVal.slice (delC (iv b) (Int.toNat (↑y : Int))) 1 Tag.ro], AVal.slice [AVal.agg [AVal.int IntKind.i64 g, AVal.slice [] 0 Tag.nil, AVal.bool true]] 3 Tag.full, AVal.int IntKind.i64 (0 : Int)]) (Sto.set (Sto.del (Sto.del (Sto.del (Sto.set (Sto.set (Sto.pushRow (Sto.pushRow (Sto.pushRow (Sto.push (Sto.push (Sto.push Sto.empty (AObj.cells c)) (AObj.cells [AVal.slice [] 0 Tag.nil, AVal.slice [] 0 Tag.nil])) (AObj.cells [AVal.int IntKind.i64 (0 : Int), AVal.slice [] 0 Tag.nil, AVal.bool false])) (strv a) 1) (iv b) 1) (strv xs) 1) 1 (AObj.cells c1)) 2 (AObj.cells c2)) 7) 5) 3) 0 (AObj.cells (setRange c 0 [AVal.slice (delC (strv a) (Int.toNat (if IntKind.wrap IntKind.i64 ((↑n1 : Int) - (1 : Int)) < (↑y : Int) then IntKind.wrap IntKind.i64 ((↑n1 : Int) - (1 : Int)) else (↑y : Int)))) 1 Tag.ro, AVal.slice (delC (iv b) (Int.toNat (↑y : Int))) 1 Tag.ro])))))))) := by kernel_rfl
end Go.Proofs.Ytlfnmhfmikomkaa
end

section
set_option linter.unusedVariables false
set_option linter.unusedSimpArgs false
namespace Go.Proofs.Ytlfnmhfmikomkaa
open Go.AL

theorem cloneS_c (l : List Txt) (hl : l.length ≤ 1000000) : ACall Try.prog 39 [.slice (strv l) 1 .ro] Sto.empty fun r _ => Wk r (.slice (strv l) 1 .ro) := by
  have hn : (strv l).length = l.length := strv_length l
  refine cloneS_i l _ (.of_none rfl) ?_
  simp only [hold_eq, true_and]
  intro b hb _
  refine brV_by (fun h => ?_) (fun h => ?_)
  · have hb1 : b = true := by simpa using h
    have : strv l = [] := List.isEmpty_iff.1 (hb hb1)
    rw [this]
    exact Wk.nil _ _ _
  · exact gb_by (by simp only [true_or, true_and, and_true, decide_eq_true_eq, Nat.zero_add]; omega) (by rw [List.nil_append]; exact Wk.ro _ _ _)
theorem cloneIS_c (l : List Int) (hl : l.length ≤ 1000000) : ACall Try.prog 42 [.slice (iv l) 1 .ro] Sto.empty fun r _ => Wk r (.slice (iv l) 1 .ro) := by
  have hn : (iv l).length = l.length := iv_length l
  refine cloneIS_i l _ (.of_none rfl) ?_
  simp only [hold_eq, true_and]
  intro b hb _
  refine brV_by (fun h => ?_) (fun h => ?_)
  · have hb1 : b = true := by simpa using h
    have : iv l = [] := List.isEmpty_iff.1 (hb hb1)
    rw [this]
    exact Wk.nil _ _ _
  · exact gb_by (by simp only [true_or, true_and, and_true, decide_eq_true_eq, Nat.zero_add]; omega) (by rw [List.nil_append]; exact Wk.ro _ _ _)
theorem cloneS_ok : EntOk Try.prog cloneSE := by
  intro xs σ; simp only [cloneSE]; split
  · rename_i es s t
    intro hc
    simp only [Bool.and_eq_true, hold_eq, decide_eq_true_eq] at hc
    obtain ⟨h1, h2, h3⟩ := hc
    have e := strv_of h2
    have ho : noOutL 0 es = true := by rw [e]; exact strv_noOut 0 _
    have ht : noTokL 0 es = true := by rw [e]; exact strv_noTok 0 _
    have := cloneS_c (es.map AVal.strOf) (by simpa using h3)
    rw [← e] at this
    exact pcall_of (.cons (by have := wk_strv t h1 h2; rwa [← e] at this) (.refl _)) this (by simp only [noOutL, AVal.noOut, ho, Bool.and_true]) (by simp only [noTokL, AVal.noTok, ht, Tag.below, Bool.and_true]) (by simp only [AVal.noOut, ho]) (by simp only [AVal.noTok, ht, Tag.below, Bool.and_true])
  · trivial
theorem cloneIS_ok : EntOk Try.prog cloneISE := by
  intro xs σ; simp only [cloneISE]; split
  · rename_i es s t
    intro hc
    simp only [Bool.and_eq_true, hold_eq, decide_eq_true_eq] at hc
    obtain ⟨h1, h2, h3⟩ := hc
    have e := iv_of h2
    have ho : noOutL 0 es = true := by rw [e]; exact iv_noOut 0 _
    have ht : noTokL 0 es = true := by rw [e]; exact iv_noTok 0 _
    have := cloneIS_c (es.map AVal.intOf) (by simpa using h3)
    rw [← e] at this
    exact pcall_of (.cons (by have := wk_iv t h1 h2; rwa [← e] at this) (.refl _)) this (by simp only [noOutL, AVal.noOut, ho, Bool.and_true]) (by simp only [noTokL, AVal.noTok, ht, Tag.below, Bool.and_true]) (by simp only [AVal.noOut, ho]) (by simp only [AVal.noTok, ht, Tag.below, Bool.and_true])
  · trivial

/-! ### A root and a leaf of one's own -/
theorem rootM_spec {v : AVal} (h : rootM v = true) : rootIs v = true ∧ (rootOf v).1.length ≤ 1000000 ∧ (rootOf v).2.length ≤ 1000000 := by
  simpa [rootM] using h
theorem lfM_spec {v : AVal} (h : lfM v = true) : lfIs v = true ∧ (lfOf v).2.1.length ≤ 1000000 := by
  simpa [lfM] using h
theorem rootM_mk {r : Root} (h1 : r.1.length ≤ 1000000) (h2 : r.2.length ≤ 1000000) : rootM (rootV r) = true := by simp [rootM, h1, h2]
theorem lfM_mk {l : Lf} (h1 : l.2.1.length ≤ 1000000) : lfM (lfV l) = true := by simp [lfM, h1]
theorem isR_spec {σ : Sto} (h : isR σ = true) : ∃ c, σ = Sto.push Sto.empty (.cells c) := by
  classical
  simpa [isR] using h
theorem isR_mk (c : List AVal) : isR (Sto.push Sto.empty (.cells c)) = true := by
  unfold isR
  exact @decide_eq_true _ (Classical.propDecidable _) ⟨c, rfl⟩
noncomputable def ownA (r : Root) (l : Lf) : AVal := .tuple [.agg [.mrow 3 (strv r.1).length, .mrow 5 (iv r.2).length], .agg [.int .i64 l.1, .mrow 7 (strv l.2.1).length, .bool false], .int .i64 0]
noncomputable def ownS (r : Root) (l : Lf) (σ : Sto) : Sto := Sto.set (Sto.set (Sto.pushRow (Sto.pushRow (Sto.pushRow (Sto.push (Sto.push σ (.cells nilRC)) (.cells nilLC)) (strv r.1) 1) (iv r.2) 1) (strv l.2.1) 1)
          1 (.cells [.mrow 3 (strv r.1).length, .mrow 5 (iv r.2).length])) 2 (.cells [.int .i64 l.1, .mrow 7 (strv l.2.1).length, .bool false])
noncomputable def ownN (σ : Sto) : Sto := Sto.set (Sto.set (Sto.push (Sto.push σ (.cells nilRC)) (.cells nilLC)) 1 (.cells nilRC)) 2 (.cells nilLC)
noncomputable def ownZ : AVal := .tuple [.agg [.slice [] 0 .nil, .slice [] 0 .nil], .agg [.int .i64 0, .slice [] 0 .nil, .bool false], .int .i64 100]
theorem own_c (c : List AVal) (r : Root) (l : Lf) (s : Txt) (h1 : r.1.length ≤ 1000000) (h2 : r.2.length ≤ 1000000) (h3 : l.2.1.length ≤ 1000000) (Q : AVal → Sto → Prop)
    (hA : ownB r l s = true → Q (ownA r l) (ownS r l (Sto.push Sto.empty (.cells c)))) (hB : ownB r l s = false → Q ownZ (ownN (Sto.push Sto.empty (.cells c)))) :
    ACall Try.prog 34 [rootV r, lfV l, .str s] (Sto.push Sto.empty (.cells c)) Q := by
  refine own_i c r l s _ (.of [leafE, findE, cloneE, cloneIE] rfl ⟨leaf_ok, find_ok, clone_ok, cloneI_ok, trivial⟩) ?_
  simp only [hold_eq, map_strOf_strv, map_intOf_iv, fold_root, fold_lf]
  refine gb_by (lfG_mk (by omega)) (brV_by' (fun h => ?_) (fun h => ?_))
  · have hl : lfB l = true := by simpa using h
    intro y hy
    refine gb_by (rootG_mk (by omega) (by omega)) (brV_by' (fun h => ?_) (fun h => ?_))
    · have hf : y = l.1 := by simpa using h
      refine brV_by (fun h => ?_) (fun h => ?_)
      · have h0 : l.1 = 0 := by simpa using h
        refine hB ?_
        cases ho : ownB r l s with
        | false => rfl
        | true => exact ((ownB_iff.1 ho).2.2 h0).elim
      · have h0 : l.1 ≠ 0 := by simpa using h
        have ho : ownB r l s = true := ownB_iff.2 ⟨hl, by rw [← hy, hf], h0⟩
        have hg := (lfB_iff.1 hl).1
        refine gb_by (by simpa using h1) (gb_by (by simpa using h2) (gb_by (by simpa using h3) ?_))
        rw [hg]
        exact hA ho
    · have hf : ¬ y = l.1 := by simpa using h
      refine hB ?_
      cases ho : ownB r l s with
      | false => rfl
      | true => exact (hf (by rw [hy]; exact (ownB_iff.1 ho).2.1)).elim
  · have hl : lfB l = false := by simpa using h
    refine hB ?_
    cases ho : ownB r l s with
    | false => rfl
    | true => rw [(ownB_iff.1 ho).1] at hl; cases hl
theorem own_ok : EntOk Try.prog ownE := by
  intro xs σ; simp only [ownE]; split
  · rename_i v u s
    simp only [AnsOk, ansOk, hold_eq]
    constructor
    · intro ho hc
      simp only [Bool.and_eq_true] at hc
      obtain ⟨h1, h2, h3⟩ := hc
      obtain ⟨c, rfl⟩ := isR_spec h3
      obtain ⟨r1, r2, r3⟩ := rootM_spec h1
      obtain ⟨l1, l2⟩ := lfM_spec h2
      exact ACall.args (own_c c (rootOf v) (lfOf u) s r2 r3 l2 _ (fun _ => ⟨rfl, rfl⟩) (fun h => by rw [ho] at h; cases h)) (.cons (wk_root r1) (.cons (wk_lf l1) (.refl _)))
    · intro ho hc
      simp only [Bool.and_eq_true] at hc
      obtain ⟨h1, h2, h3⟩ := hc
      obtain ⟨c, rfl⟩ := isR_spec h3
      obtain ⟨r1, r2, r3⟩ := rootM_spec h1
      obtain ⟨l1, l2⟩ := lfM_spec h2
      exact ACall.args (own_c c (rootOf v) (lfOf u) s r2 r3 l2 _ (fun h => by rw [ho] at h; cases h) (fun _ => ⟨rfl, rfl⟩)) (.cons (wk_root r1) (.cons (wk_lf l1) (.refl _)))
  · trivial
theorem insOr_ok : EntOk Try.prog insOrE := by
  intro xs σ
  simp only [insOrE, noE]
  split
  · rename_i a h
    split at h
    · cases h; intro hc; cases hc
    · cases h
  · exact ins_ok xs σ
theorem delOr_ok : EntOk Try.prog delOrE := by
  intro xs σ
  simp only [delOrE, noE]
  split
  · rename_i a h
    split at h
    · cases h; intro hc; cases hc
    · cases h
  · exact del_ok xs σ
end Go.Proofs.Ytlfnmhfmikomkaa
end

section
set_option linter.unusedVariables false
set_option linter.unusedSimpArgs false
set_option maxRecDepth 20000
namespace Go.Proofs.Ytlfnmhfmikomkaa
open Go.AL

/-- What is handed back is, its rows frozen, this. -/
def Froz (v r : AVal) (τ : Sto) : Prop := ∃ r1, Wk r r1 ∧ viewOk τ.obj r1 = true ∧ Wk (viewA τ.obj r1) v
theorem froz_of {τ : Sto} {A : AVal} {ls : List AVal} {e : Int} {R : Root} {L : List Lf} (hA : viewOk τ.obj A = true) (hA2 : Wk (viewA τ.obj A) (rootV R)) (hL : ls.map lfOf = L) (h1 : ls.all lfIs = true)
    (ho : noOutL 0 ls = true) (ht : noTokL 0 ls = true) : Froz (chV (R, L, e)) (.tuple [A, .slice ls 3 .full, .int .i64 e]) τ := by
  subst hL
  refine ⟨_, Wk.refl _, ?_, ?_⟩
  · simp only [viewOk, viewOkL, hA, AVal.noOut, AVal.noTok, ho, ht, Tag.below, Bool.and_true]
  · simp only [viewA, viewL]
    exact Wk.tuple (.cons hA2 (.cons (wk_lfs _ (okW_same _ _) h1) (.refl _)))
theorem froz_err {τ : Sto} {e : Int} : Froz (chV (errC e)) (.tuple [.agg [.slice [] 0 .nil, .slice [] 0 .nil], .slice [] 0 .nil, .int .i64 e]) τ := by
  refine ⟨_, Wk.refl _, rfl, ?_⟩
  simp only [viewA, viewL]
  exact Wk.tuple (.cons (.agg (.cons (Wk.nil _ _ _) (.cons (Wk.nil _ _ _) (.refl _)))) (.cons (Wk.nil _ _ _) (.refl _)))
theorem view_rows {τ : Sto} {r : Root} (h3 : τ.obj 3 = some (.buf (strv r.1) 1 4)) (h5 : τ.obj 5 = some (.buf (iv r.2) 1 6)) :
    viewOk τ.obj (.agg [.mrow 3 (strv r.1).length, .mrow 5 (iv r.2).length]) = true ∧ viewA τ.obj (.agg [.mrow 3 (strv r.1).length, .mrow 5 (iv r.2).length]) = rootV r := by
  simp only [viewOk, viewOkL, viewA, viewL, h3, h5, hold_eq, decide_true, strv_noOut, strv_noTok, iv_noOut, iv_noTok, Bool.and_true]
  exact ⟨rfl, rfl⟩
theorem view_rowsW {τ : Sto} {r : Root} (h3 : τ.obj 3 = some (.buf (strv r.1) 1 4)) (h5 : τ.obj 5 = some (.buf (iv r.2) 1 6)) :
    Wk (viewA τ.obj (.agg [.mrow 3 (strv r.1).length, .mrow 5 (iv r.2).length])) (rootV r) := by rw [(view_rows h3 h5).2]; exact Wk.refl _
theorem view_root {τ : Sto} (R : Root) : viewOk τ.obj (rootV R) = true := by
  simp [rootV, viewOk, viewOkL, AVal.noOut, AVal.noTok, strv_noOut, strv_noTok, iv_noOut, iv_noTok, Tag.below]
theorem view_rootW {τ : Sto} (R : Root) : Wk (viewA τ.obj (rootV R)) (rootV R) := by
  simp only [rootV, viewA, viewL]; exact Wk.refl _
theorem and_tt {a b : Bool} (h1 : a = true) (h2 : b = true) : (a && b) = true := by rw [h1, h2]; rfl
theorem insC_strv (l : List Txt) (i : Nat) (x : Txt) : insC (strv l) i (.str x) = strv (insL l i x) := insC_map AVal.str l i x
theorem insC_iv (l : List Int) (i : Nat) (x : Int) : insC (iv l) i (.int .i64 x) = iv (insL l i x) := insC_map (AVal.int .i64) l i x
theorem delC_strv (l : List Txt) (i : Nat) : delC (strv l) i = strv (delL l i) := delC_map AVal.str l i
theorem delC_iv (l : List Int) (i : Nat) : delC (iv l) i = iv (delL l i) := delC_map (AVal.int .i64) l i

theorem insert_c (r : Root) (l : Lf) (s : Txt) (h1 : r.1.length ≤ 1000000) (h2 : r.2.length ≤ 1000000) (h3 : l.2.1.length ≤ 1000000) :
    ACall Try.prog 11 [rootV r, lfV l, .str s] Sto.empty (Froz (chV (insN r l s))) := by
  have hn1 : (strv r.1).length = r.1.length := strv_length r.1
  have hn2 : (iv r.2).length = r.2.length := iv_length r.2
  refine insert_i r l s _ (.of [ownE, roE bsE, insOrE, insIE, roE containsIE, roE atE, cloneSE] rfl ⟨own_ok, roE_ok bs_ok, insOr_ok, insI_ok, roE_ok containsI_ok, roE_ok at_ok, cloneS_ok, trivial⟩) ?_
  simp only [hold_eq, map_strOf_strv, map_intOf_iv, fold_root, fold_lf]
  have hM : (rootM (rootV r) && (lfM (lfV l) && isR (Sto.push Sto.empty (.cells [.slice [] 0 .nil, .slice [] 0 .nil])))) = true := by rw [rootM_mk h1 h2, lfM_mk h3, isR_mk]; rfl
  refine brV_by (fun ho => ?_) (fun ho => ?_)
  · refine gb_by hM ?_
    have ho : ownB r l s = true := ho
    obtain ⟨hl, hf, h0⟩ := ownB_iff.1 ho
    obtain ⟨g1, g2, g3⟩ := lfB_iff.1 hl
    obtain ⟨q1, q2, q3, q4⟩ := rootB_iff.1 (ownB_root ho)
    intro p hp b hb
    have hple : p ≤ l.2.1.length := by rw [hp]; exact posN_le _ _
    refine gb_by ?_ (brV_by (fun h => by cases h) fun _ => ?_)
    · simp [g3, strv_noOut, strv_noTok, lenOk_mk (show l.2.1.length ≤ 140737488351232 by omega)]
    refine brV_by (fun h => ?_) (fun h => ?_)
    · have : 600 < s.length := by have := of_decide_eq_true h; omega
      have e : insN r l s = errC 82 := by simp only [insN, ho, this, if_true]
      rw [e]; exact froz_err
    have hs : ¬ 600 < s.length := by have := of_decide_eq_false h; omega
    refine brV_by (fun h => ?_) (fun h => ?_)
    · have e : insN r l s = errC 31 := by rw [hb] at h; simp only [insN, ho, hs, h, if_true, if_false]
      rw [e]; exact froz_err
    have hc : l.2.1.contains s = false := by rw [← hb]; exact h
    simp only [Int.toNat_natCast, insC_strv]
    have hil := insL_length l.2.1 p s hple
    have hsl := strv_length (insL l.2.1 p s)
    refine gb_by ?_ (brV_by (fun h => ?_) (fun h => ?_))
    · simp only [strv_is, Bool.true_and, hold_eq]
      rw [Bool.and_eq_true]
      exact ⟨rfl, dt ⟨trivial, by omega, by have := strv_length l.2.1; omega, by have := strv_length l.2.1; omega⟩⟩
    · have h4 : (insL l.2.1 p s).length ≤ 4 := by have : ((strv (insL l.2.1 p s)).length : Int) ≤ 4 := by simpa using h
                                                  omega
      have e : insN r l s = (r, [(l.1, insL l.2.1 p s, false)], 0) := by rw [hp] at h4 ⊢; simp only [insN, ho, hs, hc, h4, if_true, if_false]; rfl
      rw [e]
      refine froz_of (view_rows (r := r) rfl rfl).1 (view_rowsW (r := r) rfl rfl) ?_ ?_ ?_ ?_
      · simp [lfOf]
      · simp [lfIs, okW_same]
      · simp [noOutL, AVal.noOut, strv_noOut]
      · simp [noTokL, AVal.noTok, strv_noTok, Tag.below]
    · have h4 : ¬ (insL l.2.1 p s).length ≤ 4 := by have : ¬ ((strv (insL l.2.1 p s)).length : Int) ≤ 4 := by simpa using h
                                                    omega
      have h5 : (insL l.2.1 p s).length = 5 := by omega
      have e : insN r l s = ((insL r.1 (atN r.1 s) ((insL l.2.1 p s).getD 3 []), insL r.2 (atN r.1 s + 1) (freeN r.2 : Int)), [(l.1, (insL l.2.1 p s).take 3, false), ((freeN r.2 : Int), (insL l.2.1 p s).drop 3, false)], 0) := by
        rw [hp] at h4 ⊢; simp only [insN, ho, hs, hc, h4, if_true, if_false]; rfl
      rw [e]
      have hat : atN r.1 s ≤ r.1.length := atN_le _ _
      have hlen : r.1.length < r.2.length := by omega
      generalize hes : insL l.2.1 p s = es at *
      refine loopV_intro (α := Nat) (fun no => insertL_S r.1 r.2 l.2.1 es l.1 (strv r.1).length (iv r.2).length s [.slice [] 0 .nil, .slice [] 0 .nil] [.mrow 3 (strv r.1).length, .mrow 5 (iv r.2).length] [.int .i64 l.1, .mrow 7 (strv l.2.1).length, .bool false] no)
        (fun no => 1 ≤ no ∧ ∀ k : Nat, 1 ≤ k → k < no → (k : Int) ∈ r.2) (fun no => r.2.length + 1 - no) ?_ 1 ⟨Nat.le_refl _, fun k _ _ => by omega⟩
      rintro no ⟨hno, hbel⟩ L hL
      have hpig := pig (no - 1) r.2 fun k hk hk2 => hbel k hk (by omega)
      refine Eq.mpr (insertL_r r.1 r.2 l.2.1 es l.1 (strv r.1).length (iv r.2).length s [.slice [] 0 .nil, .slice [] 0 .nil] [.mrow 3 (strv r.1).length, .mrow 5 (iv r.2).length] [.int .i64 l.1, .mrow 7 (strv l.2.1).length, .bool false] no L _) ?_
      simp only [hold_eq, map_intOf_iv]
      refine gb_by (by simp [iv_noOut, iv_noTok, lenOk_mk (show r.2.length ≤ 140737488351232 by omega)]) (brV_by (fun h => ?_) (fun h => ?_))
      · have hm : (no : Int) ∈ r.2 := List.contains_iff_mem.1 h
        have hb2 : ∀ k : Nat, 1 ≤ k → k < no + 1 → (k : Int) ∈ r.2 := fun k hk hk2 => by
          rcases Nat.lt_or_ge k no with h4 | h4
          · exact hbel k hk h4
          · obtain rfl : k = no := by omega
            exact hm
        have := pig no r.2 fun k hk hk2 => hb2 k hk (by omega)
        have hw : IntKind.i64.wrap ((no : Int) + 1) = ((no + 1 : Nat) : Int) := by rw [wrap_i64 (by omega) (by omega)]; rfl
        rw [hw]
        exact hL (no + 1) ⟨by omega, hb2⟩ (by omega)
      · have hm : ¬ (no : Int) ∈ r.2 := fun h' => by rw [List.contains_iff_mem.2 h'] at h; cases h
        have hfree := freeN_uniq hno hm hbel
        refine leaveTo (toCut (Eq.mpr (insertC_r r.1 r.2 l.2.1 es l.1 (strv r.1).length (iv r.2).length s [.slice [] 0 .nil, .slice [] 0 .nil] [.mrow 3 (strv r.1).length, .mrow 5 (iv r.2).length] [.int .i64 l.1, .mrow 7 (strv l.2.1).length, .bool false] no _) ?_))
        have e1 : List.take ((strv es).length - 3) (List.drop 3 (strv es)) = strv (es.drop 3) := by
          rw [strv_drop, List.take_of_length_le (by simp)]
        have e2 : List.take 3 (List.drop 0 (strv es)) = strv (es.take 3) := by rw [strv_take, List.drop_zero]
        have e3 : elemAt (strv (es.drop 3)) 0 = [.str (es.getD 3 [])] := by
          have := elemAt_strv (es.drop 3) 0 (by simp; omega)
          simpa [h5] using this
        have e4 : (strv (es.drop 3)).length = 2 := by rw [strv_length, List.length_drop]; omega
        intro y hy
        simp only [hold_eq, map_strOf_strv] at hy
        have hy2 : y ≤ r.1.length := by omega
        have hw : IntKind.i64.wrap ((y : Int) + 1) = ((y + 1 : Nat) : Int) := by rw [wrap_i64 (by omega) (by omega)]; rfl
        simp only [hold_eq, e1, e2, e3, hw, getD_one, AVal.strOf, Int.toNat_natCast, insC_strv, insC_iv]
        have hsl' : (strv es).length = es.length := strv_length es
        refine gb_by (and_tt (and_tt (view_rows rfl rfl).1 rfl) (and_tt (and_tt (rootG_mk (by omega) (by omega)) (by rw [map_strOf_strv]; exact q2)) rfl)) ?_
        refine gb_by (dt (by first | omega | (simp only [true_and, and_true, Int.le_refl]; omega))) (gb_by (and_tt (strv_is _) (dt (by first | omega | (simp only [true_and, and_true, Int.le_refl]; omega)))) (gb_by (dt (by first | omega | (simp only [true_and, and_true, Int.le_refl]; omega))) (gb_by (dt (by first | omega | (simp only [true_and, and_true, Int.le_refl]; omega))) (gb_by rfl ?_))))
        refine gb_by (and_tt rfl (and_tt (strv_is _) (dt (by first | omega | (simp only [true_and, and_true, Int.le_refl]; omega))))) (gb_by (and_tt rfl (and_tt (iv_isI64 _) (dt (by first | omega | (simp only [true_and, and_true, Int.le_refl]; omega))))) (gb_by (dt ⟨by decide, fun _ => rfl⟩) ?_))
        rw [← hy, ← hfree]
        refine froz_of (view_root (insL r.1 y (es.getD 3 []), insL r.2 (y + 1) (no : Int))) (view_rootW (insL r.1 y (es.getD 3 []), insL r.2 (y + 1) (no : Int))) ?_ ?_ ?_ ?_
        · simp [lfOf]
        · simp [lfIs, okW_same]
        · simp [noOutL, AVal.noOut, strv_noOut]
        · simp [noTokL, AVal.noTok, strv_noTok, Tag.below]
  · refine gb_by hM ?_
    have ho : ownB r l s = false := ho
    intro p hp b hb
    have e : insN r l s = errC 100 := by simp only [insN, ho]; rfl
    refine gb_by (by simp [lenOk_mk]) (brV_by (fun _ => ?_) (fun h => by cases h))
    rw [e]; exact froz_err
theorem insert_ok : EntOk Try.prog insertE := by
  intro xs σ; simp only [insertE, chE]; split
  · rename_i v u s
    intro hc
    simp only [Bool.and_eq_true] at hc
    obtain ⟨r1, r2, r3⟩ := rootM_spec hc.1
    obtain ⟨l1, l2⟩ := lfM_spec hc.2
    exact PCall.ofRows (.cons (wk_root r1) (.cons (wk_lf l1) (.refl _))) (insert_c (rootOf v) (lfOf u) s r2 r3 l2) (by simp only [noOutL, root_noOut, lf_noOut, AVal.noOut, Bool.and_true]) (by simp only [noTokL, root_noTok, lf_noTok, AVal.noTok, Bool.and_true]) (ch_noOut _ _) (ch_noTok _ _)
  · trivial

theorem remove_c (r : Root) (l : Lf) (s : Txt) (h1 : r.1.length ≤ 1000000) (h2 : r.2.length ≤ 1000000) (h3 : l.2.1.length ≤ 1000000) :
    ACall Try.prog 18 [rootV r, lfV l, .str s] Sto.empty (Froz (chV (remN r l s))) := by
  have hn1 : (strv r.1).length = r.1.length := strv_length r.1
  have hn2 : (iv r.2).length = r.2.length := iv_length r.2
  refine remove_i r l s _ (.of [ownE, roE bsE, delOrE, delIE, roE atE] rfl ⟨own_ok, roE_ok bs_ok, delOr_ok, delI_ok, roE_ok at_ok, trivial⟩) ?_
  simp only [hold_eq, map_strOf_strv, map_intOf_iv, fold_root, fold_lf]
  have hM : (rootM (rootV r) && (lfM (lfV l) && isR (Sto.push Sto.empty (.cells [.slice [] 0 .nil, .slice [] 0 .nil])))) = true := by rw [rootM_mk h1 h2, lfM_mk h3, isR_mk]; rfl
  refine brV_by (fun ho => ?_) (fun ho => ?_)
  · refine gb_by hM ?_
    have ho : ownB r l s = true := ho
    obtain ⟨hl, hf, h0⟩ := ownB_iff.1 ho
    obtain ⟨g1, g2, g3⟩ := lfB_iff.1 hl
    obtain ⟨q1, q2, q3, q4⟩ := rootB_iff.1 (ownB_root ho)
    intro p hp b hb
    refine gb_by ?_ (brV_by (fun h => by cases h) fun _ => ?_)
    · simp [g3, strv_noOut, strv_noTok, lenOk_mk (show l.2.1.length ≤ 140737488351232 by omega)]
    refine brV_by (fun h => ?_) (fun h => ?_)
    · have hc : l.2.1.contains s = false := by rw [← hb]; simpa using h
      have e : remN r l s = errC 101 := by simp only [remN, ho, hc, if_true]; rfl
      rw [e]; exact froz_err
    have hc : l.2.1.contains s = true := by rw [← hb]; simpa using h
    have hplt : p < l.2.1.length := by rw [hp]; exact posN_lt_len g3 hc
    simp only [Int.toNat_natCast, delC_strv]
    have hil := delL_length l.2.1 p hplt
    have hsl := strv_length (delL l.2.1 p)
    have hw : IntKind.i64.wrap ((p : Int) + 1) = (p : Int) + 1 := by rw [wrap_i64 (by omega) (by omega)]
    have keep : (0 < (delL l.2.1 p).length ∨ r.2.length = 1) → Froz (chV (remN r l s)) (.tuple [.agg [.mrow 3 (strv r.1).length, .mrow 5 (iv r.2).length], .slice [.agg [.int .i64 l.1, .slice (strv (delL l.2.1 p)) 1 .ro, .bool false]] 3 .full, .int .i64 0])
        (Sto.set (Sto.del (Sto.set (Sto.set (Sto.pushRow (Sto.pushRow (Sto.pushRow (Sto.push (Sto.push (Sto.push Sto.empty (.cells nilRC)) (.cells nilRC)) (.cells nilLC)) (strv r.1) 1) (iv r.2) 1) (strv l.2.1) 1) 1 (.cells [.mrow 3 (strv r.1).length, .mrow 5 (iv r.2).length])) 2 (.cells [.int .i64 l.1, .mrow 7 (strv l.2.1).length, .bool false])) 7) 0 (.cells [.mrow 3 (strv r.1).length, .mrow 5 (iv r.2).length])) := fun hk => by
      have e : remN r l s = (r, [(l.1, delL l.2.1 p, false)], 0) := by rw [hp] at hk ⊢; simp only [remN, ho, hc, hk, if_true]
      rw [e]
      refine froz_of (view_rows (r := r) rfl rfl).1 (view_rowsW (r := r) rfl rfl) ?_ ?_ ?_ ?_
      · simp [lfOf]
      · simp [lfIs, okW_same]
      · simp [noOutL, AVal.noOut, strv_noOut]
      · simp [noTokL, AVal.noTok, strv_noTok, Tag.below]
    refine gb_by ?_ (brV_by' (fun h => ?_) (fun h => keep (.inl (by have := of_decide_eq_true h; omega))))
    · simp only [strv_is, Bool.true_and, hold_eq]
      rw [Bool.and_eq_true]
      exact ⟨rfl, dt ⟨trivial, by omega, by have := strv_length l.2.1; omega, hw, by have := strv_length l.2.1; omega⟩⟩
    have hz : (delL l.2.1 p).length = 0 := by have := of_decide_eq_false h; omega
    refine brV_by (fun h => ?_) (fun h => ?_)
    · exact keep (.inr (by have : ((iv r.2).length : Int) = 1 := by simpa using h
                           omega))
    · have hr1 : r.2.length ≠ 1 := by have : ¬ ((iv r.2).length : Int) = 1 := by simpa using h
                                      omega
      have hnk : ¬ (0 < (delL l.2.1 p).length ∨ r.2.length = 1) := by omega
      have e : remN r l s = ((delL r.1 (min (atN r.1 s) (r.1.length - 1)), delL r.2 (atN r.1 s)), [(l.1, [], true)], 0) := by
        rw [hp] at hnk; simp only [remN, ho, hc, hnk, if_true, if_false]
      rw [e]
      have hat : atN r.1 s ≤ r.1.length := atN_le _ _
      generalize hes : delL l.2.1 p = es at *
      refine toCut (Eq.mpr (removeC_r r.1 r.2 l.2.1 es l.1 (strv r.1).length (iv r.2).length s [.slice [] 0 .nil, .slice [] 0 .nil] [.mrow 3 (strv r.1).length, .mrow 5 (iv r.2).length] [.int .i64 l.1, .mrow 7 (strv l.2.1).length, .bool false] _) ?_)
      intro y hy
      simp only [hold_eq, map_strOf_strv] at hy
      have hy2 : y ≤ r.1.length := by omega
      have hw2 : IntKind.i64.wrap ((y : Int) + 1) = (y : Int) + 1 := by rw [wrap_i64 (by omega) (by omega)]
      have hm : (if IntKind.i64.wrap (((strv r.1).length : Int) - 1) < (y : Int) then IntKind.i64.wrap (((strv r.1).length : Int) - 1) else (y : Int)) = ((min y (r.1.length - 1) : Nat) : Int) := by
        rw [wrap_i64 (by omega) (by omega)]
        split <;> omega
      have hw3 : IntKind.i64.wrap (((min y (r.1.length - 1) : Nat) : Int) + 1) = ((min y (r.1.length - 1) : Nat) : Int) + 1 := by rw [wrap_i64 (by omega) (by omega)]
      simp only [hold_eq, hm, hw2, hw3, Int.toNat_natCast, delC_strv, delC_iv]
      refine gb_by (and_tt (and_tt (view_rows rfl rfl).1 rfl) (and_tt (and_tt (rootG_mk (by omega) (by omega)) (by rw [map_strOf_strv]; exact q2)) rfl)) ?_
      refine gb_by (and_tt rfl (and_tt (iv_isI64 _) (dt (by first | omega | (simp only [true_and, and_true, Int.le_refl]; omega))))) (gb_by (and_tt rfl (and_tt (strv_is _) (dt (by first | omega | (simp only [true_and, and_true, Int.le_refl]; omega))))) (gb_by (dt ⟨by decide, fun _ => rfl⟩) ?_))
      rw [← hy]
      refine froz_of (view_root (delL r.1 (min y (r.1.length - 1)), delL r.2 y)) (view_rootW (delL r.1 (min y (r.1.length - 1)), delL r.2 y)) ?_ ?_ ?_ ?_
      · simp [lfOf]
      · simp [lfIs, okW]
      · simp [noOutL, AVal.noOut]
      · simp [noTokL, AVal.noTok, Tag.below]
  · refine gb_by hM ?_
    have ho : ownB r l s = false := ho
    intro p hp b hb
    have e : remN r l s = errC 100 := by simp only [remN, ho]; rfl
    refine gb_by (by simp [lenOk_mk]) (brV_by (fun _ => ?_) (fun h => by cases h))
    rw [e]; exact froz_err
theorem remove_ok : EntOk Try.prog removeE := by
  intro xs σ; simp only [removeE, chE]; split
  · rename_i v u s
    intro hc
    simp only [Bool.and_eq_true] at hc
    obtain ⟨r1, r2, r3⟩ := rootM_spec hc.1
    obtain ⟨l1, l2⟩ := lfM_spec hc.2
    exact PCall.ofRows (.cons (wk_root r1) (.cons (wk_lf l1) (.refl _))) (remove_c (rootOf v) (lfOf u) s r2 r3 l2) (by simp only [noOutL, root_noOut, lf_noOut, AVal.noOut, Bool.and_true]) (by simp only [noTokL, root_noTok, lf_noTok, AVal.noTok, Bool.and_true]) (ch_noOut _ _) (ch_noTok _ _)
  · trivial
end Go.Proofs.Ytlfnmhfmikomkaa
end

section
set_option linter.unusedVariables false
set_option linter.unusedSimpArgs false
set_option maxRecDepth 20000
namespace Go.Proofs.Ytlfnmhfmikomkaa
open Go.AL

theorem take_step {α : Type} {a b : List α} {i : Nat} (h1 : i < a.length) (h2 : i < b.length) (he : a.take i = b.take i) (hx : a[i] = b[i]) : a.take (i + 1) = b.take (i + 1) := by
  rw [List.take_succ_eq_append_getElem h1, List.take_succ_eq_append_getElem h2, he, hx]
theorem take_ne {α : Type} {a b : List α} {i : Nat} (h1 : i < a.length) (h2 : i < b.length) (hx : a[i] ≠ b[i]) : a ≠ b := by
  rintro rfl; exact hx rfl
theorem take_all {α : Type} {a b : List α} {i : Nat} (h1 : a.length ≤ i) (h2 : b.length ≤ i) (he : a.take i = b.take i) : a = b := by
  rwa [List.take_of_length_le h1, List.take_of_length_le h2] at he

theorem has_c (l : List Txt) (x : Txt) (hl : l.length ≤ 140737488351232) : ACall Try.prog 49 [.slice (strv l) 1 .ro, .str x] Sto.empty fun r _ => Wk r (.int .i64 (if l.contains x then (l.idxOf x : Int) else -1)) := by
  refine has_i _ _ _ (.of_none rfl) ?_
  have hn : (strv l).length = l.length := strv_length l
  refine loopV_intro (α := Nat) (fun i => hasL_S l x i) (fun i => i ≤ l.length ∧ ∀ y ∈ l.take i, y ≠ x) (fun i => l.length - i) ?_ 0 ⟨Nat.zero_le _, fun x hx => by simp at hx⟩
  rintro i ⟨hi, hpre⟩ L hL
  refine Eq.mpr (hasL_r l x i L _) ?_
  simp only [hold_eq]
  refine brV_by (fun h => ?_) (fun h => ?_)
  · have hlt : i < l.length := by have := of_decide_eq_true h; omega
    rw [i64_succ hlt hl, elemAt_strv l i hlt]
    refine gb_by (dt (by omega)) (gb_by rfl (brV_by (fun h => ?_) (fun h => ?_)))
    · have e : l[i] = x := by
        have h : (l[i] == x) = true := h
        simpa using h
      have hc : l.contains x = true := by rw [← e]; simp
      have hx : l.idxOf x = i := by
        unfold List.idxOf
        rw [List.findIdx_eq hlt]
        refine ⟨by simp [e], fun j hj => ?_⟩
        have := hpre l[j] (List.mem_take_iff_getElem.2 ⟨j, by omega, rfl⟩)
        simpa using this
      rw [if_pos hc, hx]
      exact Wk.refl _
    · have e : l[i] ≠ x := by
        have h : (l[i] == x) = false := h
        simpa using h
      refine hL (i + 1) ⟨hlt, fun y hy => ?_⟩ (by omega)
      rw [List.take_succ_eq_append_getElem hlt] at hy
      rcases List.mem_append.1 hy with h1 | h1
      · exact hpre y h1
      · simp at h1; subst h1; exact e
  · have hge : ¬ i < l.length := by have := of_decide_eq_false h; omega
    rw [List.take_of_length_le (by omega)] at hpre
    have hc : ¬ l.contains x = true := by
      intro hc
      have : x ∈ l := by simpa using hc
      exact hpre x this rfl
    rw [if_neg hc]
    exact leaveTo (toCut (Eq.mpr (hasF_r _) (Wk.refl _)))
theorem has_ok : EntOk Try.prog hasE := by
  intro xs σ; simp only [hasE]; split
  · rename_i es s t x
    intro hc
    simp only [Bool.and_eq_true, hold_eq] at hc
    obtain ⟨h1, h2, h3⟩ := hc
    exact pcall_of (.cons (wk_strv t h1 h2) (.refl _)) (has_c _ x (by simpa using lenOk_of h3)) (by simp only [noOutL, AVal.noOut, strv_noOut, Bool.and_true]) (by simp only [noTokL, AVal.noTok, strv_noTok, Bool.and_true, Tag.below]) rfl rfl
  · trivial

theorem texts_c (a b : List Txt) (ha : a.length ≤ 140737488351232) : ACall Try.prog 15 [.slice (strv a) 1 .ro, .slice (strv b) 1 .ro] Sto.empty fun r _ => Wk r (.bool (hold (a == b))) := by
  refine texts_i a b _ (.of_none rfl) ?_
  have hna : (strv a).length = a.length := strv_length a
  have hnb : (strv b).length = b.length := strv_length b
  simp only [hold_eq]
  refine brV_by (fun h => ?_) (fun h => ?_)
  · have hne : a.length ≠ b.length := by
      have : ¬ ((strv a).length : Int) = ((strv b).length : Int) := by simpa using h
      omega
    have : (a == b) = false := by rw [beq_eq_false_iff_ne]; rintro rfl; exact hne rfl
    rw [this]; exact Wk.refl _
  · have hlen : a.length = b.length := by
      have : ((strv a).length : Int) = ((strv b).length : Int) := by simpa using h
      omega
    refine loopV_intro (α := Nat) (fun i => textsL_S a b i) (fun i => i ≤ a.length ∧ a.take i = b.take i) (fun i => a.length - i) ?_ 0 ⟨Nat.zero_le _, rfl⟩
    rintro i ⟨hi, he⟩ L hL
    refine Eq.mpr (textsL_r a b i L _) ?_
    simp only [hold_eq]
    refine brV_by (fun h => ?_) (fun h => ?_)
    · have hlt : i < a.length := by have := of_decide_eq_true h; omega
      rw [i64_succ hlt ha, elemAt_strv a i hlt, elemAt_strv b i (by omega)]
      refine gb_by (dt (by omega)) (gb_by rfl (gb_by (dt (by omega)) (gb_by rfl (brV_by (fun h => ?_) (fun h => ?_)))))
      · have hne : a[i] ≠ b[i] := by
          have h : (!(a[i] == b[i])) = true := h
          simpa using h
        have : (a == b) = false := by rw [beq_eq_false_iff_ne]; exact take_ne hlt (by omega) hne
        rw [this]; exact Wk.refl _
      · have he2 : a[i] = b[i] := by
          have h : (!(a[i] == b[i])) = false := h
          simpa using h
        exact hL (i + 1) ⟨hlt, take_step hlt (by omega) he he2⟩ (by omega)
    · have hge : ¬ i < a.length := by have := of_decide_eq_false h; omega
      have : (a == b) = true := by rw [beq_iff_eq]; exact take_all (by omega) (by omega) he
      rw [this]
      exact leaveTo (toCut (Eq.mpr (textsF_r _) (Wk.refl _)))
theorem texts_ok : EntOk Try.prog textsE := by
  intro xs σ; simp only [textsE]; split
  · rename_i es s t fs s' t'
    intro hc
    simp only [Bool.and_eq_true, hold_eq] at hc
    obtain ⟨h1, h2, h3, h4, h5⟩ := hc
    exact pcall_of (.cons (wk_strv t h1 h3) (.cons (wk_strv t' h2 h4) (.refl _))) (texts_c _ _ (by simpa using lenOk_of h5)) (by simp only [noOutL, AVal.noOut, strv_noOut, Bool.and_true]) (by simp only [noTokL, AVal.noTok, strv_noTok, Bool.and_true, Tag.below]) rfl rfl
  · trivial

theorem sameRoot_c (r q : Root) (h1 : r.1.length ≤ 140737488351232) (h2 : r.2.length ≤ 140737488351232) : ACall Try.prog 21 [rootV r, rootV q] Sto.empty fun v _ => Wk v (.bool (hold (r == q))) := by
  refine sameRoot_i r q _ (.of [textsE] rfl ⟨texts_ok, trivial⟩) ?_
  have hna : (iv r.2).length = r.2.length := iv_length _
  have hnb : (iv q.2).length = q.2.length := iv_length _
  have hb : (r == q) = (r.1 == q.1 && r.2 == q.2) := rfl
  simp only [hold_eq]
  refine brV_by (fun h => ?_) (fun h => ?_)
  · have hne : r.2.length ≠ q.2.length := by
      have : ¬ ((iv r.2).length : Int) = ((iv q.2).length : Int) := by simpa using h
      omega
    have : (r == q) = false := by rw [beq_eq_false_iff_ne]; rintro rfl; exact hne rfl
    rw [this]; exact Wk.refl _
  · have hlen : r.2.length = q.2.length := by
      have : ((iv r.2).length : Int) = ((iv q.2).length : Int) := by simpa using h
      omega
    refine loopV_intro (α := Nat) (fun i => sameRootL_S r q i) (fun i => i ≤ r.2.length ∧ r.2.take i = q.2.take i) (fun i => r.2.length - i) ?_ 0 ⟨Nat.zero_le _, rfl⟩
    rintro i ⟨hi, he⟩ L hL
    refine Eq.mpr (sameRootL_r r q i L _) ?_
    simp only [hold_eq]
    refine brV_by (fun h => ?_) (fun h => ?_)
    · have hlt : i < r.2.length := by have := of_decide_eq_true h; omega
      rw [i64_succ hlt h2, elemAt_iv r.2 i hlt, elemAt_iv q.2 i (by omega)]
      refine gb_by (dt (by omega)) (gb_by rfl (gb_by (dt (by omega)) (gb_by rfl (brV_by (fun h => ?_) (fun h => ?_)))))
      · have hne : r.2[i] ≠ q.2[i] := by
          have h : (r.2[i] != q.2[i]) = true := h
          simpa using h
        have : (r == q) = false := by rw [beq_eq_false_iff_ne]; rintro rfl; exact hne rfl
        rw [this]; exact Wk.refl _
      · have he2 : r.2[i] = q.2[i] := by
          have h : (r.2[i] != q.2[i]) = false := h
          simpa using h
        exact hL (i + 1) ⟨hlt, take_step hlt (by omega) he he2⟩ (by omega)
    · have hge : ¬ i < r.2.length := by have := of_decide_eq_false h; omega
      have h2e : r.2 = q.2 := take_all (by omega) (by omega) he
      have : (r == q) = (r.1 == q.1) := by rw [hb, h2e]; simp
      rw [this]
      refine leaveTo (toCut (Eq.mpr (sameRootF_r r q _) ?_))
      simp only [hold_eq, map_strOf_strv, strv_is, Bool.true_and]
      exact gb_by (lenOk_mk (by have := strv_length r.1; omega)) (Wk.refl _)
theorem sameRoot_ok : EntOk Try.prog sameRootE := by
  intro xs σ; simp only [sameRootE]; split
  · rename_i v u
    intro hc
    simp only [Bool.and_eq_true] at hc
    obtain ⟨r1, r2, r3⟩ := rootG_spec hc.1
    obtain ⟨q1, q2, q3⟩ := rootG_spec hc.2
    exact pcall_of (.cons (wk_root r1) (.cons (wk_root q1) (.refl _))) (sameRoot_c _ _ r2 r3) (by simp only [noOutL, root_noOut, Bool.and_true]) (by simp only [noTokL, root_noTok, Bool.and_true]) rfl rfl
  · trivial

theorem same_c (a b : List Lf) (ha : a.length ≤ 140737488351232) (hs : ∀ x ∈ a, x.2.1.length ≤ 140737488351232) : ACall Try.prog 22 [.slice (lfv a) 3 .ro, .slice (lfv b) 3 .ro] Sto.empty fun r _ => Wk r (.bool (hold (a == b))) := by
  refine same_i a b _ (.of [textsE] rfl ⟨texts_ok, trivial⟩) ?_
  have hna : (lfv a).length = a.length := lfv_length a
  have hnb : (lfv b).length = b.length := lfv_length b
  simp only [hold_eq]
  refine brV_by (fun h => ?_) (fun h => ?_)
  · have hne : a.length ≠ b.length := by
      have : ¬ ((lfv a).length : Int) = ((lfv b).length : Int) := by simpa using h
      omega
    have : (a == b) = false := by rw [beq_eq_false_iff_ne]; rintro rfl; exact hne rfl
    rw [this]; exact Wk.refl _
  · have hlen : a.length = b.length := by
      have : ((lfv a).length : Int) = ((lfv b).length : Int) := by simpa using h
      omega
    refine loopV_intro (α := Nat) (fun i => sameL_S a b i) (fun i => i ≤ a.length ∧ a.take i = b.take i) (fun i => a.length - i) ?_ 0 ⟨Nat.zero_le _, rfl⟩
    rintro i ⟨hi, he⟩ L hL
    refine Eq.mpr (sameL_r a b i L _) ?_
    simp only [hold_eq]
    refine brV_by (fun h => ?_) (fun h => ?_)
    · have hlt : i < a.length := by have := of_decide_eq_true h; omega
      have hltb : i < b.length := by omega
      rw [i64_succ hlt ha, elemAt_lfv a i hlt, elemAt_lfv b i hltb]
      have hx : (a[i]).2.1.length ≤ 140737488351232 := hs _ (List.getElem_mem hlt)
      have no : a[i] ≠ b[i] → (a == b) = false := fun h => by rw [beq_eq_false_iff_ne]; exact take_ne hlt hltb h
      refine gb_by (dt (by omega)) (gb_by rfl (gb_by (dt (by omega)) (gb_by rfl (brV_by' (fun h => ?_) (fun h => ?_)))))
      · have e1 : (a[i]).1 = (b[i]).1 := by
          have h : ((a[i]).1 != (b[i]).1) = false := h
          simpa using h
        refine gb_by (dt (by omega)) (gb_by rfl (gb_by (dt (by omega)) (gb_by rfl (brV_by' (fun h => ?_) (fun h => ?_)))))
        · have e2 : (a[i]).2.2 = (b[i]).2.2 := by
            have h : (!((a[i]).2.2 == (b[i]).2.2)) = false := h
            simpa using h
          refine gb_by (dt (by omega)) (gb_by rfl (gb_by (dt (by omega)) (gb_by rfl (gb_by ?_ (brV_by (fun h => ?_) (fun h => ?_))))))
          · exact and_tt (strv_is _) (and_tt (strv_is _) (lenOk_mk (by rw [← strv_length] at hx; exact hx)))
          · have h : (!(List.map AVal.strOf (strv (a[i]).2.1) == List.map AVal.strOf (strv (b[i]).2.1))) = true := h
            rw [map_strOf_strv, map_strOf_strv] at h
            have e3 : (a[i]).2.1 ≠ (b[i]).2.1 := by simpa using h
            rw [no (fun e => e3 (by rw [e]))]; exact Wk.refl _
          · have h : (!(List.map AVal.strOf (strv (a[i]).2.1) == List.map AVal.strOf (strv (b[i]).2.1))) = false := h
            rw [map_strOf_strv, map_strOf_strv] at h
            have e3 : (a[i]).2.1 = (b[i]).2.1 := by simpa using h
            exact hL (i + 1) ⟨hlt, take_step hlt hltb he (Prod.ext e1 (Prod.ext e3 e2))⟩ (by omega)
        · have h : (!((a[i]).2.2 == (b[i]).2.2)) = true := h
          have e2 : (a[i]).2.2 ≠ (b[i]).2.2 := by simpa using h
          rw [no (fun e => e2 (by rw [e]))]; exact Wk.refl _
      · have h : ((a[i]).1 != (b[i]).1) = true := h
        have e1 : (a[i]).1 ≠ (b[i]).1 := by simpa using h
        rw [no (fun e => e1 (by rw [e]))]; exact Wk.refl _
    · have hge : ¬ i < a.length := by have := of_decide_eq_false h; omega
      have : (a == b) = true := by rw [beq_iff_eq]; exact take_all (by omega) (by omega) he
      rw [this]
      exact leaveTo (toCut (Eq.mpr (sameF_r _) (Wk.refl _)))
theorem same_ok : EntOk Try.prog sameE := by
  intro xs σ; simp only [sameE]; split
  · rename_i es s t fs s' t'
    intro hc
    simp only [Bool.and_eq_true] at hc
    obtain ⟨h1, h2, h3, h4, h5, h6⟩ := hc
    refine pcall_of (.cons (wk_lfs t h1 h3) (.cons (wk_lfs t' h2 h4) (.refl _))) (same_c _ _ (by simpa using lenOk_of h5) ?_) (by simp only [noOutL, AVal.noOut, lfv_noOut, Bool.and_true]) (by simp only [noTokL, AVal.noTok, lfv_noTok, Bool.and_true, Tag.below]) rfl rfl
    intro x hx
    obtain ⟨e, he, rfl⟩ := List.mem_map.1 hx
    exact (lfG_spec (List.all_eq_true.1 h6 e he)).2
  · trivial
end Go.Proofs.Ytlfnmhfmikomkaa
end
