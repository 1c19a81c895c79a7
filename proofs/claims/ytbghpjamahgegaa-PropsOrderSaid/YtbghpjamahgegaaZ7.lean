/-
  The texts P6r, P5r, Pv, Pw, Pb, PD, Py, PF, PG, PJ, PK of this seat, one behind the other.
-/
import Derived.Test.YtbghpjamahgegaaZ6
import Derived.KernelRfl
import Derived.Lib.SliceRun
import Derived.Lib.MapLaws

section
set_option maxRecDepth 100000
set_option maxHeartbeats 0
set_option linter.unusedVariables false
namespace Go.Proofs.Ytbghpjamahgegaa.Pg6
open Go.AL Go.Proofs
noncomputable def cOrder : Cfg := { keep := [0, 1, 2, 6, 7, 8, 9, 10, 11, 12, 13, 14, 15, 16, 17, 34, 43, 49, 63, 100, 125], cut := [(21, [0, 1, 2, 7, 9, 10, 11, 12], []), (22, [0, 1, 2, 7, 9, 10, 11, 12], []), (32, [0, 1, 2, 7, 9, 10, 11, 12], []), (34, [0, 1, 2, 7, 9, 10, 11], []), (46, [0, 1, 7, 11, 15], [])], orc := ofList [awakeE, smallE, copiedXE, setE, findRE, sameRE, dropE, getE], grow := [(9, 1004), (10, 1)], nmd := [15] }
noncomputable def cCopiedS : Cfg := { keep := [0, 2], cut := [] }
noncomputable def code_15_ : Code := (Try.f15.body).getD .skip
noncomputable def code_4_ : Code := (Try.f4.body).getD .skip
noncomputable def code_4_1_1_1_1_1_1_1_1 : Code := codeAt code_4_ [1, 1, 1, 1, 1, 1, 1, 1]
noncomputable def code_4_1_1_1_1_1_1_1_0_1_0_0 : Code := codeAt code_4_ [1, 1, 1, 1, 1, 1, 1, 0, 1, 0, 0]
noncomputable def code_4_1_1_1_1_1_1_1_1_1_1_1_1 : Code := codeAt code_4_ [1, 1, 1, 1, 1, 1, 1, 1, 1, 1, 1, 1]
noncomputable def code_4_1_1_1_1_1_1_1_0_1_0_0_1_1 : Code := codeAt code_4_ [1, 1, 1, 1, 1, 1, 1, 0, 1, 0, 0, 1, 1]
noncomputable def code_4_1_1_1_1_1_1_1_0_1_0_0_1_0_0_1_1_1 : Code := codeAt code_4_ [1, 1, 1, 1, 1, 1, 1, 0, 1, 0, 0, 1, 0, 0, 1, 1, 1]
theorem order_r (a b : List Pr) (t : Int) (Q : AVal → Sto → Prop) : vc Try.prog cOrder code_4_ (endK Try.prog Try.f4.results.toList Q) (St.start Try.f4.ntmps [.slice (prv a) 4 .ro, .slice (prv b) 4 .ro, .int .i64 t] (Sto.empty)) =
  (brV (!hold true) false (gb (List.all (prv a) isPr) (brV (!hold (smallP (List.map prOf (prv a)))) false (gb (List.all (prv b) isPr) (brV (!hold (smallP (List.map prOf (prv b)))) false (brV (hold ((↑(List.length (prv b)) : Int) == (0 : Int))) true (Q (AVal.bool (hold true)) Sto.empty) (∀ (y : List Pr × Int), y = setP (List.map prOf (prv a)) (List.map prOf (prv b)) → gb (Go.Proofs.Ytbghpjamahgegaa.prsOk (prv a) 4 && (Go.Proofs.Ytbghpjamahgegaa.prsOk (prv b) 4 && hold (decide (List.length (prv b) ≤ 900000)))) (brV (hold (Prod.snd y != (0 : Int))) true (Q (AVal.bool true) Sto.empty) (∀ (y_1 : List Pr), y_1 = List.map prOf (prv a) → gb (Go.Proofs.Ytbghpjamahgegaa.prsOk (prv a) 4) (loopV (fun s => St.norm [(9, 1004), (10, 1)] [0, 1, 2, 7, 9, 10, 11, 12] [] s) (vc Try.prog cOrder code_4_1_1_1_1_1_1_1_0_1_0_0) (blockK 0 (thenK (fun s => cutV (vc Try.prog cOrder code_4_1_1_1_1_1_1_1_1 (endK Try.prog (Array.toList (Go.Func.results Try.f4)) Q)) (St.norm [(9, 1004), (10, 1)] [0, 1, 2, 7, 9, 10, 11] [] s)) (endK Try.prog (Array.toList (Go.Func.results Try.f4)) Q))) (St.mk 160 [(0, AVal.slice (prv a) 4 Tag.ro), (1, AVal.slice (prv b) 4 Tag.ro), (2, AVal.int IntKind.i64 t), (7, AVal.slice (prv (Prod.fst y)) 4 Tag.ro), (9, AVal.slice (prv y_1) 4 Tag.ro), (10, AVal.slice [] 1 (Tag.own 0)), (11, AVal.bool true), (12, AVal.int IntKind.i64 (0 : Int))] [] [] (Sto.pushOwn Sto.empty 0))))))) (Q (AVal.bool (hold true)) Sto.empty))) (Q (AVal.bool (hold true)) Sto.empty))) (Q (AVal.bool (hold true)) Sto.empty)) := by kernel_rfl
theorem order_i (a b : List Pr) (t : Int) (Q : AVal → Sto → Prop) (ho : OrcOk Try.prog cOrder) (h : brV (!hold true) false (gb (List.all (prv a) isPr) (brV (!hold (smallP (List.map prOf (prv a)))) false (gb (List.all (prv b) isPr) (brV (!hold (smallP (List.map prOf (prv b)))) false (brV (hold ((↑(List.length (prv b)) : Int) == (0 : Int))) true (Q (AVal.bool (hold true)) Sto.empty) (∀ (y : List Pr × Int), y = setP (List.map prOf (prv a)) (List.map prOf (prv b)) → gb (Go.Proofs.Ytbghpjamahgegaa.prsOk (prv a) 4 && (Go.Proofs.Ytbghpjamahgegaa.prsOk (prv b) 4 && hold (decide (List.length (prv b) ≤ 900000)))) (brV (hold (Prod.snd y != (0 : Int))) true (Q (AVal.bool true) Sto.empty) (∀ (y_1 : List Pr), y_1 = List.map prOf (prv a) → gb (Go.Proofs.Ytbghpjamahgegaa.prsOk (prv a) 4) (loopV (fun s => St.norm [(9, 1004), (10, 1)] [0, 1, 2, 7, 9, 10, 11, 12] [] s) (vc Try.prog cOrder code_4_1_1_1_1_1_1_1_0_1_0_0) (blockK 0 (thenK (fun s => cutV (vc Try.prog cOrder code_4_1_1_1_1_1_1_1_1 (endK Try.prog (Array.toList (Go.Func.results Try.f4)) Q)) (St.norm [(9, 1004), (10, 1)] [0, 1, 2, 7, 9, 10, 11] [] s)) (endK Try.prog (Array.toList (Go.Func.results Try.f4)) Q))) (St.mk 160 [(0, AVal.slice (prv a) 4 Tag.ro), (1, AVal.slice (prv b) 4 Tag.ro), (2, AVal.int IntKind.i64 t), (7, AVal.slice (prv (Prod.fst y)) 4 Tag.ro), (9, AVal.slice (prv y_1) 4 Tag.ro), (10, AVal.slice [] 1 (Tag.own 0)), (11, AVal.bool true), (12, AVal.int IntKind.i64 (0 : Int))] [] [] (Sto.pushOwn Sto.empty 0))))))) (Q (AVal.bool (hold true)) Sto.empty))) (Q (AVal.bool (hold true)) Sto.empty))) (Q (AVal.bool (hold true)) Sto.empty)) : ACall Try.prog 4 [.slice (prv a) 4 .ro, .slice (prv b) 4 .ro, .int .i64 t] (Sto.empty) Q :=
  ACall.intro hmix Try.func4 (c := code_4_) (by kernel_rfl) cOrder ho (Nat.le_of_ble_eq_true (by kernel_rfl)) (by rw [order_r]; exact h)
noncomputable def orderL_S (a b x o : List Pr) (ks : List Txt) (t : Int) (p : Bool) (i : Nat) : St := St.mk 160 [(0, .slice (prv a) 4 .ro), (1, .slice (prv b) 4 .ro), (2, .int .i64 t), (7, .slice (prv x) 4 .ro), (9, .slice (prv o) 4 .ro), (10, .slice (strv ks) 1 (.own 0)), (11, .bool p), (12, .int .i64 (i : Int))] [] [] (Sto.pushOwn Sto.empty (strv ks).length)
noncomputable abbrev orderL_C : Code := code_4_1_1_1_1_1_1_1_0_1_0_0
theorem orderL_r (a b x o : List Pr) (ks : List Txt) (t : Int) (p : Bool) (i : Nat) (L : St → Prop) (K : Exit → St → Prop) : vc Try.prog cOrder code_4_1_1_1_1_1_1_1_0_1_0_0 (thenK (fun s => L (St.norm [(9, 1004), (10, 1)] [0, 1, 2, 7, 9, 10, 11, 12] [] s)) K) (St.mk 160 [(0, .slice (prv a) 4 .ro), (1, .slice (prv b) 4 .ro), (2, .int .i64 t), (7, .slice (prv x) 4 .ro), (9, .slice (prv o) 4 .ro), (10, .slice (strv ks) 1 (.own 0)), (11, .bool p), (12, .int .i64 (i : Int))] [] [] (Sto.pushOwn Sto.empty (strv ks).length)) =
  (brV (hold (decide ((↑i : Int) < (↑(List.length (prv b)) : Int)))) true (gb (decide ((0 : Int) ≤ (↑i : Int) ∧ (↑i : Int) < (↑(List.length (prv b)) : Int))) (gb (decide (4 ≤ List.length (elemAt (prv b) (↑i : Int)) ∧ 0 < 4) && (etaOk Sh.str (List.getD (elemAt (prv b) (↑i : Int)) 0 AVal.undef) && (etaOk (Sh.int IntKind.i64) (List.getD (elemAt (prv b) (↑i : Int)) 1 AVal.undef) && (etaOk (Sh.int IntKind.i64) (List.getD (elemAt (prv b) (↑i : Int)) 2 AVal.undef) && (etaOk Sh.str (List.getD (elemAt (prv b) (↑i : Int)) 3 AVal.undef) && true))))) (∀ (y : List Pr × Int), y = setP (List.map prOf (prv o)) [Pr.mk (AVal.strOf (List.getD (elemAt (prv b) (↑i : Int)) 0 AVal.undef)) (Vl.mk (AVal.intOf (List.getD (elemAt (prv b) (↑i : Int)) 1 AVal.undef)) (AVal.intOf (List.getD (elemAt (prv b) (↑i : Int)) 2 AVal.undef)) (AVal.strOf (List.getD (elemAt (prv b) (↑i : Int)) 3 AVal.undef)))] → gb (Go.Proofs.Ytbghpjamahgegaa.prsOk (prv o) 4 && (Go.Proofs.Ytbghpjamahgegaa.prsOk [AVal.agg [AVal.str (AVal.strOf (List.getD (elemAt (prv b) (↑i : Int)) 0 AVal.undef)), AVal.int IntKind.i64 (AVal.intOf (List.getD (elemAt (prv b) (↑i : Int)) 1 AVal.undef)), AVal.int IntKind.i64 (AVal.intOf (List.getD (elemAt (prv b) (↑i : Int)) 2 AVal.undef)), AVal.str (AVal.strOf (List.getD (elemAt (prv b) (↑i : Int)) 3 AVal.undef))]] 4 && hold true)) (brV (hold (Prod.snd y != (0 : Int))) true (K Exit.ret (St.mk 160 [(0, AVal.slice (prv a) 4 Tag.ro), (1, AVal.slice (prv b) 4 Tag.ro), (2, AVal.int IntKind.i64 t), (7, AVal.slice (prv x) 4 Tag.ro), (9, AVal.slice (prv (Prod.fst y)) 4 Tag.ro), (10, AVal.slice (strv ks) 1 (Tag.own 0)), (11, AVal.bool p), (12, AVal.int IntKind.i64 (↑i : Int)), (49, AVal.bool (hold (decide ((↑i : Int) < (↑(List.length (prv b)) : Int))))), (8, AVal.int IntKind.i64 (Prod.snd y)), (63, AVal.bool (hold (Prod.snd y != (0 : Int)))), (6, AVal.bool (hold (Prod.snd y == (32 : Int))))] [] [] (Sto.pushOwn Sto.empty (List.length (strv ks))))) (brV p true (gb (decide ((0 : Int) ≤ (0 : Int) ∧ (0 : Int) ≤ (↑i : Int) ∧ (↑i : Int) ≤ (↑(List.length (prv b)) : Int))) (gb (decide ((0 : Int) ≤ (↑i : Int) ∧ (↑i : Int) < (↑(List.length (prv b)) : Int))) (gb (decide (1 ≤ List.length (List.drop 0 (elemAt (prv b) (↑i : Int))) ∧ 0 < 1) && etaOk Sh.str (List.getD (List.drop 0 (elemAt (prv b) (↑i : Int))) 0 AVal.undef)) (∀ (y_1 : Bool), (y_1 = List.any (List.map prOf (List.take (Int.toNat (↑i : Int) - 0) (List.drop 0 (prv b)))) fun (p : Pr) ↦ Pr.key p == AVal.strOf (List.getD (List.drop 0 (elemAt (prv b) (↑i : Int))) 0 AVal.undef)) → ∀ (y_2 : Int), (y_2 = if y_1 = true then (↑(List.findIdx (fun (p : Pr) ↦ Pr.key p == AVal.strOf (List.getD (List.drop 0 (elemAt (prv b) (↑i : Int))) 0 AVal.undef)) (List.map prOf (List.take (Int.toNat (↑i : Int) - 0) (List.drop 0 (prv b))))) : Int) else (-1 : Int)) → gb (Go.Proofs.Ytbghpjamahgegaa.prsOk (List.take (Int.toNat (↑i : Int) - 0) (List.drop 0 (prv b))) 4) (cutV (vc Try.prog cOrder code_4_1_1_1_1_1_1_1_0_1_0_0_1_0_0_1_1_1 (blockK 1 (thenK (fun s => cutV (vc Try.prog cOrder code_4_1_1_1_1_1_1_1_0_1_0_0_1_1 (thenK (fun s => L (St.norm [(9, 1004), (10, 1)] [0, 1, 2, 7, 9, 10, 11, 12] [] s)) K)) (St.norm [(9, 1004), (10, 1)] [0, 1, 2, 7, 9, 10, 11, 12] [] s)) (thenK (fun s => L (St.norm [(9, 1004), (10, 1)] [0, 1, 2, 7, 9, 10, 11, 12] [] s)) K)))) (St.mk 160 [(0, AVal.slice (prv a) 4 Tag.ro), (1, AVal.slice (prv b) 4 Tag.ro), (2, AVal.int IntKind.i64 t), (7, AVal.slice (prv x) 4 Tag.ro), (9, AVal.slice (prv (Prod.fst y)) 4 Tag.ro), (10, AVal.slice (strv ks) 1 (Tag.own 0)), (11, AVal.bool (hold (decide (y_2 < (0 : Int))))), (12, AVal.int IntKind.i64 (↑i : Int))] [] [] (Sto.pushOwn Sto.empty (List.length (strv ks))))))))) (cutV (vc Try.prog cOrder code_4_1_1_1_1_1_1_1_0_1_0_0_1_0_0_1_1_1 (blockK 1 (thenK (fun s => cutV (vc Try.prog cOrder code_4_1_1_1_1_1_1_1_0_1_0_0_1_1 (thenK (fun s => L (St.norm [(9, 1004), (10, 1)] [0, 1, 2, 7, 9, 10, 11, 12] [] s)) K)) (St.norm [(9, 1004), (10, 1)] [0, 1, 2, 7, 9, 10, 11, 12] [] s)) (thenK (fun s => L (St.norm [(9, 1004), (10, 1)] [0, 1, 2, 7, 9, 10, 11, 12] [] s)) K)))) (St.mk 160 [(0, AVal.slice (prv a) 4 Tag.ro), (1, AVal.slice (prv b) 4 Tag.ro), (2, AVal.int IntKind.i64 t), (7, AVal.slice (prv x) 4 Tag.ro), (9, AVal.slice (prv (Prod.fst y)) 4 Tag.ro), (10, AVal.slice (strv ks) 1 (Tag.own 0)), (11, AVal.bool false), (12, AVal.int IntKind.i64 (↑i : Int))] [] [] (Sto.pushOwn Sto.empty (List.length (strv ks)))))))))) (K (Exit.exit 0) (St.mk 160 [(0, AVal.slice (prv a) 4 Tag.ro), (1, AVal.slice (prv b) 4 Tag.ro), (2, AVal.int IntKind.i64 t), (7, AVal.slice (prv x) 4 Tag.ro), (9, AVal.slice (prv o) 4 Tag.ro), (10, AVal.slice (strv ks) 1 (Tag.own 0)), (11, AVal.bool p), (12, AVal.int IntKind.i64 (↑i : Int)), (49, AVal.bool (hold (decide ((↑i : Int) < (↑(List.length (prv b)) : Int)))))] [] [] (Sto.pushOwn Sto.empty (List.length (strv ks)))))) := by kernel_rfl
noncomputable def orderI_S (a b x o : List Pr) (ks : List Txt) (t : Int) (p : Bool) (i : Nat) : St := St.mk 160 [(0, .slice (prv a) 4 .ro), (1, .slice (prv b) 4 .ro), (2, .int .i64 t), (7, .slice (prv x) 4 .ro), (9, .slice (prv o) 4 .ro), (10, .slice (strv ks) 1 (.own 0)), (11, .bool p), (12, .int .i64 (i : Int))] [] [] (Sto.pushOwn Sto.empty (strv ks).length)
noncomputable abbrev orderI_C : Code := code_4_1_1_1_1_1_1_1_0_1_0_0_1_0_0_1_1_1
theorem orderI_r (a b x o : List Pr) (ks : List Txt) (t : Int) (p : Bool) (i : Nat) (K : Exit → St → Prop) : vc Try.prog cOrder code_4_1_1_1_1_1_1_1_0_1_0_0_1_0_0_1_1_1 K (St.mk 160 [(0, .slice (prv a) 4 .ro), (1, .slice (prv b) 4 .ro), (2, .int .i64 t), (7, .slice (prv x) 4 .ro), (9, .slice (prv o) 4 .ro), (10, .slice (strv ks) 1 (.own 0)), (11, .bool p), (12, .int .i64 (i : Int))] [] [] (Sto.pushOwn Sto.empty (strv ks).length)) =
  (gb (decide ((0 : Int) ≤ (↑i : Int) ∧ (↑i : Int) < (↑(List.length (prv b)) : Int))) (gb (decide (1 ≤ List.length (List.drop 0 (elemAt (prv b) (↑i : Int))) ∧ 0 < 1) && etaOk Sh.str (List.getD (List.drop 0 (elemAt (prv b) (↑i : Int))) 0 AVal.undef)) (gb (decide (decide (true = true ∧ some (List.length (strv ks)) = some (List.length (strv ks)) ∧ (List.length (strv ks) + 1) * 16 ≤ 140737488355328 ∧ List.length (strv ks) + 1 ≤ 9223372036854775807) = true ∧ true = true)) (K Exit.normal (St.mk 160 [(0, AVal.slice (prv a) 4 Tag.ro), (1, AVal.slice (prv b) 4 Tag.ro), (2, AVal.int IntKind.i64 t), (7, AVal.slice (prv x) 4 Tag.ro), (9, AVal.slice (prv o) 4 Tag.ro), (10, AVal.slice (strv ks ++ [AVal.str (AVal.strOf (List.getD (List.drop 0 (elemAt (prv b) (↑i : Int))) 0 AVal.undef))]) 1 (Tag.own 0)), (11, AVal.bool p), (12, AVal.int IntKind.i64 (↑i : Int))] [] [] (Sto.setOwn (Sto.pushOwn Sto.empty (List.length (strv ks))) 0 (List.length (strv ks) + 1))))))) := by kernel_rfl
noncomputable def orderJ_S (a b x o : List Pr) (ks : List Txt) (t : Int) (p : Bool) (i : Nat) : St := St.mk 160 [(0, .slice (prv a) 4 .ro), (1, .slice (prv b) 4 .ro), (2, .int .i64 t), (7, .slice (prv x) 4 .ro), (9, .slice (prv o) 4 .ro), (10, .slice (strv ks) 1 (.own 0)), (11, .bool p), (12, .int .i64 (i : Int))] [] [] (Sto.pushOwn Sto.empty (strv ks).length)
noncomputable abbrev orderJ_C : Code := code_4_1_1_1_1_1_1_1_0_1_0_0_1_1
theorem orderJ_r (a b x o : List Pr) (ks : List Txt) (t : Int) (p : Bool) (i : Nat) (K : Exit → St → Prop) : vc Try.prog cOrder code_4_1_1_1_1_1_1_1_0_1_0_0_1_1 K (St.mk 160 [(0, .slice (prv a) 4 .ro), (1, .slice (prv b) 4 .ro), (2, .int .i64 t), (7, .slice (prv x) 4 .ro), (9, .slice (prv o) 4 .ro), (10, .slice (strv ks) 1 (.own 0)), (11, .bool p), (12, .int .i64 (i : Int))] [] [] (Sto.pushOwn Sto.empty (strv ks).length)) =
  (K Exit.normal (St.mk 160 [(0, AVal.slice (prv a) 4 Tag.ro), (1, AVal.slice (prv b) 4 Tag.ro), (2, AVal.int IntKind.i64 t), (7, AVal.slice (prv x) 4 Tag.ro), (9, AVal.slice (prv o) 4 Tag.ro), (10, AVal.slice (strv ks) 1 (Tag.own 0)), (11, AVal.bool p), (12, AVal.int IntKind.i64 (IntKind.wrap IntKind.i64 ((↑i : Int) + (1 : Int))))] [] [] (Sto.pushOwn Sto.empty (List.length (strv ks))))) := by kernel_rfl
noncomputable def orderA_S (a b x o : List Pr) (ks : List Txt) (t : Int) (p : Bool) : St := St.mk 160 [(0, .slice (prv a) 4 .ro), (1, .slice (prv b) 4 .ro), (2, .int .i64 t), (7, .slice (prv x) 4 .ro), (9, .slice (prv o) 4 .ro), (10, .slice (strv ks) 1 (.own 0)), (11, .bool p)] [] [] (Sto.pushOwn Sto.empty (strv ks).length)
noncomputable abbrev orderA_C : Code := code_4_1_1_1_1_1_1_1_1
theorem orderA_r (a b x o : List Pr) (ks : List Txt) (t : Int) (p : Bool) (Q : AVal → Sto → Prop) : vc Try.prog cOrder code_4_1_1_1_1_1_1_1_1 (endK Try.prog Try.f4.results.toList Q) (St.mk 160 [(0, .slice (prv a) 4 .ro), (1, .slice (prv b) 4 .ro), (2, .int .i64 t), (7, .slice (prv x) 4 .ro), (9, .slice (prv o) 4 .ro), (10, .slice (strv ks) 1 (.own 0)), (11, .bool p)] [] [] (Sto.pushOwn Sto.empty (strv ks).length)) =
  (∀ (y : Bool), y = decide (List.map prOf (prv o) = List.map prOf (prv x)) → gb (Go.Proofs.Ytbghpjamahgegaa.prsOk (prv o) 4 && Go.Proofs.Ytbghpjamahgegaa.prsOk (prv x) 4) (brV (!hold y) false (∀ (y : List Pr), y = dropP (List.map prOf (prv x)) (List.map AVal.strOf (strv ks)) → gb (Go.Proofs.Ytbghpjamahgegaa.prsOk (prv x) 4 && Go.Proofs.Ytbghpjamahgegaa.strsOk (strv ks) 1) (∀ (y_1 : List Pr), y_1 = dropP (List.map prOf (prv a)) (List.map AVal.strOf (strv ks)) → gb (Go.Proofs.Ytbghpjamahgegaa.prsOk (prv a) 4 && Go.Proofs.Ytbghpjamahgegaa.strsOk (strv ks) 1) (∀ (y_2 : Bool), y_2 = decide (List.map prOf (prv y) = List.map prOf (prv y_1)) → gb (Go.Proofs.Ytbghpjamahgegaa.prsOk (prv y) 4 && Go.Proofs.Ytbghpjamahgegaa.prsOk (prv y_1) 4) (brV (!hold y_2) true (Q (AVal.bool false) (Sto.pushOwn Sto.empty (List.length (strv ks)))) (gb (decide ((0 : Int) ≤ IntKind.wrap IntKind.i64 ((↑(List.length (prv b)) : Int) - (1 : Int)) ∧ IntKind.wrap IntKind.i64 ((↑(List.length (prv b)) : Int) - (1 : Int)) < (↑(List.length (prv b)) : Int))) (gb (decide (1 ≤ List.length (List.drop 0 (elemAt (prv b) (IntKind.wrap IntKind.i64 ((↑(List.length (prv b)) : Int) - (1 : Int))))) ∧ 0 < 1) && etaOk Sh.str (List.getD (List.drop 0 (elemAt (prv b) (IntKind.wrap IntKind.i64 ((↑(List.length (prv b)) : Int) - (1 : Int))))) 0 AVal.undef)) (∀ (y : Option Pr), y = getP (List.map prOf (prv x)) (AVal.strOf (List.getD (List.drop 0 (elemAt (prv b) (IntKind.wrap IntKind.i64 ((↑(List.length (prv b)) : Int) - (1 : Int))))) 0 AVal.undef)) → ∀ (y_3 : Vl), y_3 = Option.elim y (Vl.mk (0 : Int) (0 : Int) []) Pr.v → gb (Go.Proofs.Ytbghpjamahgegaa.prsOk (prv x) 4) (brV (!hold (Option.isSome y)) false (gb (decide ((0 : Int) ≤ IntKind.wrap IntKind.i64 ((↑(List.length (prv b)) : Int) - (1 : Int)) ∧ IntKind.wrap IntKind.i64 ((↑(List.length (prv b)) : Int) - (1 : Int)) < (↑(List.length (prv b)) : Int))) (gb (decide (3 ≤ List.length (List.drop 1 (elemAt (prv b) (IntKind.wrap IntKind.i64 ((↑(List.length (prv b)) : Int) - (1 : Int))))) ∧ 0 < 3) && (etaOk (Sh.int IntKind.i64) (List.getD (List.drop 1 (elemAt (prv b) (IntKind.wrap IntKind.i64 ((↑(List.length (prv b)) : Int) - (1 : Int))))) 0 AVal.undef) && (etaOk (Sh.int IntKind.i64) (List.getD (List.drop 1 (elemAt (prv b) (IntKind.wrap IntKind.i64 ((↑(List.length (prv b)) : Int) - (1 : Int))))) 1 AVal.undef) && (etaOk Sh.str (List.getD (List.drop 1 (elemAt (prv b) (IntKind.wrap IntKind.i64 ((↑(List.length (prv b)) : Int) - (1 : Int))))) 2 AVal.undef) && true)))) (brV (!hold (Vl.k y_3 == AVal.intOf (List.getD (List.drop 1 (elemAt (prv b) (IntKind.wrap IntKind.i64 ((↑(List.length (prv b)) : Int) - (1 : Int))))) 0 AVal.undef) && (Vl.n y_3 == AVal.intOf (List.getD (List.drop 1 (elemAt (prv b) (IntKind.wrap IntKind.i64 ((↑(List.length (prv b)) : Int) - (1 : Int))))) 1 AVal.undef) && (Vl.s y_3 == AVal.strOf (List.getD (List.drop 1 (elemAt (prv b) (IntKind.wrap IntKind.i64 ((↑(List.length (prv b)) : Int) - (1 : Int))))) 2 AVal.undef) && true)))) true (Q (AVal.bool false) (Sto.pushOwn Sto.empty (List.length (strv ks)))) (gb (decide ((↑(List.length (prv b)) : Int) ≠ (0 : Int))) (gb (decide ((↑(List.length (prv b)) : Int) ≠ (0 : Int))) (∀ (m : Int), m = Int.tmod (IntKind.wrap IntKind.i64 (Int.tmod t (↑(List.length (prv b)) : Int) + (↑(List.length (prv b)) : Int))) (↑(List.length (prv b)) : Int) → cutV (vc Try.prog cOrder code_4_1_1_1_1_1_1_1_1_1_1_1_1 (endK Try.prog (Array.toList (Go.Func.results Try.f4)) Q)) (St.mk 160 [(0, AVal.slice (prv a) 4 Tag.ro), (1, AVal.slice (prv b) 4 Tag.ro), (7, AVal.slice (prv x) 4 Tag.ro), (11, AVal.bool p), (15, AVal.int IntKind.i64 m)] [] [] (Sto.pushOwn Sto.empty (List.length (strv ks)))))))))) (Q (AVal.bool false) (Sto.pushOwn Sto.empty (List.length (strv ks)))))))))))) (Q (AVal.bool false) (Sto.pushOwn Sto.empty (List.length (strv ks)))))) := by kernel_rfl
noncomputable def orderF_S (a b x : List Pr) (n : Nat) (p : Bool) (k : Nat) : St := St.mk 160 [(0, .slice (prv a) 4 .ro), (1, .slice (prv b) 4 .ro), (7, .slice (prv x) 4 .ro), (11, .bool p), (15, .int .i64 (k : Int))] [] [] (Sto.pushOwn Sto.empty n)
noncomputable abbrev orderF_C : Code := code_4_1_1_1_1_1_1_1_1_1_1_1_1
theorem orderF_r (a b x : List Pr) (n : Nat) (p : Bool) (k : Nat) (Q : AVal → Sto → Prop) : vc Try.prog cOrder code_4_1_1_1_1_1_1_1_1_1_1_1_1 (endK Try.prog Try.f4.results.toList Q) (St.mk 160 [(0, .slice (prv a) 4 .ro), (1, .slice (prv b) 4 .ro), (7, .slice (prv x) 4 .ro), (11, .bool p), (15, .int .i64 (k : Int))] [] [] (Sto.pushOwn Sto.empty n)) =
  (gb (decide ((0 : Int) ≤ (↑k : Int) ∧ (↑k : Int) ≤ (↑(List.length (prv b)) : Int) ∧ (↑(List.length (prv b)) : Int) ≤ (↑(List.length (prv b)) : Int))) (gb (Go.Proofs.Ytbghpjamahgegaa.prsOk (List.take (Int.toNat (↑(List.length (prv b)) : Int) - Int.toNat (↑k : Int)) (List.drop (Int.toNat (↑k : Int)) (prv b))) 4) (gb (decide ((0 : Int) ≤ (0 : Int) ∧ (0 : Int) ≤ (↑k : Int) ∧ (↑k : Int) ≤ (↑(List.length (prv b)) : Int))) (gb (decide (decide (true = true ∧ some (List.length (prv (List.map prOf (List.take (Int.toNat (↑(List.length (prv b)) : Int) - Int.toNat (↑k : Int)) (List.drop (Int.toNat (↑k : Int)) (prv b)))))) = some (List.length (prv (List.map prOf (List.take (Int.toNat (↑(List.length (prv b)) : Int) - Int.toNat (↑k : Int)) (List.drop (Int.toNat (↑k : Int)) (prv b)))))) ∧ (List.length (prv (List.map prOf (List.take (Int.toNat (↑(List.length (prv b)) : Int) - Int.toNat (↑k : Int)) (List.drop (Int.toNat (↑k : Int)) (prv b))))) + List.length (List.take (Int.toNat (↑k : Int) - 0) (List.drop 0 (prv b)))) * 48 ≤ 140737488355328 ∧ List.length (prv (List.map prOf (List.take (Int.toNat (↑(List.length (prv b)) : Int) - Int.toNat (↑k : Int)) (List.drop (Int.toNat (↑k : Int)) (prv b))))) + List.length (List.take (Int.toNat (↑k : Int) - 0) (List.drop 0 (prv b))) ≤ 9223372036854775807) = true ∧ true = true)) (∀ (y : List Pr × Int), y = setP (List.map prOf (prv a)) (List.map prOf (prv (List.map prOf (List.take (Int.toNat (↑(List.length (prv b)) : Int) - Int.toNat (↑k : Int)) (List.drop (Int.toNat (↑k : Int)) (prv b)))) ++ List.take (Int.toNat (↑k : Int) - 0) (List.drop 0 (prv b)))) → gb (Go.Proofs.Ytbghpjamahgegaa.prsOk (prv a) 4 && (Go.Proofs.Ytbghpjamahgegaa.prsOk (prv (List.map prOf (List.take (Int.toNat (↑(List.length (prv b)) : Int) - Int.toNat (↑k : Int)) (List.drop (Int.toNat (↑k : Int)) (prv b)))) ++ List.take (Int.toNat (↑k : Int) - 0) (List.drop 0 (prv b))) 4 && hold (decide (List.length (prv (List.map prOf (List.take (Int.toNat (↑(List.length (prv b)) : Int) - Int.toNat (↑k : Int)) (List.drop (Int.toNat (↑k : Int)) (prv b)))) ++ List.take (Int.toNat (↑k : Int) - 0) (List.drop 0 (prv b))) ≤ 900000)))) (brV (!p) false (brV (hold (Prod.snd y == (0 : Int))) true (∀ (y_1 : Bool), y_1 = decide (List.map prOf (prv x) = List.map prOf (prv (Prod.fst y))) → gb (Go.Proofs.Ytbghpjamahgegaa.prsOk (prv x) 4 && Go.Proofs.Ytbghpjamahgegaa.prsOk (prv (Prod.fst y)) 4) (Q (AVal.bool (hold y_1)) (Sto.setOwn (Sto.pushOwn (Sto.pushOwn Sto.empty n) (List.length (prv (List.map prOf (List.take (Int.toNat (↑(List.length (prv b)) : Int) - Int.toNat (↑k : Int)) (List.drop (Int.toNat (↑k : Int)) (prv b))))))) 1 (List.length (prv (List.map prOf (List.take (Int.toNat (↑(List.length (prv b)) : Int) - Int.toNat (↑k : Int)) (List.drop (Int.toNat (↑k : Int)) (prv b))))) + List.length (List.take (Int.toNat (↑k : Int) - 0) (List.drop 0 (prv b))))))) (Q (AVal.bool false) (Sto.setOwn (Sto.pushOwn (Sto.pushOwn Sto.empty n) (List.length (prv (List.map prOf (List.take (Int.toNat (↑(List.length (prv b)) : Int) - Int.toNat (↑k : Int)) (List.drop (Int.toNat (↑k : Int)) (prv b))))))) 1 (List.length (prv (List.map prOf (List.take (Int.toNat (↑(List.length (prv b)) : Int) - Int.toNat (↑k : Int)) (List.drop (Int.toNat (↑k : Int)) (prv b))))) + List.length (List.take (Int.toNat (↑k : Int) - 0) (List.drop 0 (prv b))))))) (Q (AVal.bool true) (Sto.setOwn (Sto.pushOwn (Sto.pushOwn Sto.empty n) (List.length (prv (List.map prOf (List.take (Int.toNat (↑(List.length (prv b)) : Int) - Int.toNat (↑k : Int)) (List.drop (Int.toNat (↑k : Int)) (prv b))))))) 1 (List.length (prv (List.map prOf (List.take (Int.toNat (↑(List.length (prv b)) : Int) - Int.toNat (↑k : Int)) (List.drop (Int.toNat (↑k : Int)) (prv b))))) + List.length (List.take (Int.toNat (↑k : Int) - 0) (List.drop 0 (prv b)))))))))))) := by kernel_rfl
theorem copiedS_r (σ : Sto) (l : List Pr) (Q : AVal → Sto → Prop) : vc Try.prog cCopiedS code_15_ (endK Try.prog Try.f15.results.toList Q) (St.start Try.f15.ntmps [.slice (prv l) 4 .ro] (σ)) =
  (gb (decide (decide (true = true ∧ (true = true ∨ 0 < List.length (prv l)) ∧ (0 + List.length (prv l)) * 48 ≤ 140737488355328 ∧ 0 + List.length (prv l) ≤ 9223372036854775807) = true ∧ true = true)) (Q (AVal.slice ([] ++ prv l) 4 (Tag.own (Sto.nown σ))) (Sto.pushOwn σ (0 + List.length (prv l))))) := by kernel_rfl
theorem copiedS_i (σ : Sto) (l : List Pr) (Q : AVal → Sto → Prop) (ho : OrcOk Try.prog cCopiedS) (h : gb (decide (decide (true = true ∧ (true = true ∨ 0 < List.length (prv l)) ∧ (0 + List.length (prv l)) * 48 ≤ 140737488355328 ∧ 0 + List.length (prv l) ≤ 9223372036854775807) = true ∧ true = true)) (Q (AVal.slice ([] ++ prv l) 4 (Tag.own (Sto.nown σ))) (Sto.pushOwn σ (0 + List.length (prv l))))) : ACall Try.prog 15 [.slice (prv l) 4 .ro] (σ) Q :=
  ACall.intro hmix Try.func15 (c := code_15_) (by kernel_rfl) cCopiedS ho (Nat.le_of_ble_eq_true (by kernel_rfl)) (by rw [copiedS_r]; exact h)
end Go.Proofs.Ytbghpjamahgegaa.Pg6
end

section
set_option maxRecDepth 100000
set_option maxHeartbeats 0
set_option linter.unusedVariables false
namespace Go.Proofs.Ytbghpjamahgegaa.Pg5
open Go.AL Go.Proofs
noncomputable def cGets : Cfg := { keep := [0, 1, 2, 6, 7, 8, 9, 10, 11, 12, 13, 15, 16, 28, 37, 53, 62, 79], cut := [(19, [1, 2, 7, 9, 10, 11, 12, 13], [9, 11]), (26, [2, 7, 9, 10, 11, 12], [9, 11])], orc := ofList [awakeE, smallE, setE, getE, dropE] }
noncomputable def cSets : Cfg := { keep := [0, 1, 2, 6, 7, 8, 9, 10, 11, 12, 13, 14, 15, 16, 33, 77, 92, 96, 138], cut := [(25, [0, 2, 8, 11, 13], []), (36, [2, 8, 11], [])], orc := ofList [awakeE, smallE, copiedE, setE, setRE, sameRE, rightE, rightRE, sameE, dropE, dropRE, getE, findRE] }
noncomputable def code_5_ : Code := (Try.f5.body).getD .skip
noncomputable def code_6_ : Code := (Try.f6.body).getD .skip
noncomputable def code_5_1_1_1_1_1_1_1 : Code := codeAt code_5_ [1, 1, 1, 1, 1, 1, 1]
noncomputable def code_6_1_1_1_1_1_1_1_1_1 : Code := codeAt code_6_ [1, 1, 1, 1, 1, 1, 1, 1, 1]
noncomputable def code_5_1_1_1_1_1_1_0_1_0_0 : Code := codeAt code_5_ [1, 1, 1, 1, 1, 1, 0, 1, 0, 0]
noncomputable def code_6_1_1_1_1_1_1_1_1_0_1_0_0 : Code := codeAt code_6_ [1, 1, 1, 1, 1, 1, 1, 1, 0, 1, 0, 0]
theorem gets_r (a b : List Pr) (key : Txt) (Q : AVal → Sto → Prop) : vc Try.prog cGets code_5_ (endK Try.prog Try.f5.results.toList Q) (St.start Try.f5.ntmps [.slice (prv a) 4 .ro, .slice (prv b) 4 .ro, .str key] (Sto.empty)) =
  (brV (!hold true) false (gb (List.all (prv a) isPr) (brV (!hold (smallP (List.map prOf (prv a)))) false (gb (List.all (prv b) isPr) (brV (!hold (smallP (List.map prOf (prv b)))) true (Q (AVal.bool (hold true)) Sto.empty) (∀ (y : List Pr × Int), y = setP (List.map prOf (prv a)) (List.map prOf (prv b)) → gb (Go.Proofs.Ytbghpjamahgegaa.prsOk (prv a) 4 && (Go.Proofs.Ytbghpjamahgegaa.prsOk (prv b) 4 && hold (decide (List.length (prv b) ≤ 900000)))) (brV (hold (Prod.snd y != (0 : Int))) true (Q (AVal.bool true) Sto.empty) (∀ (y_1 : Option Pr), y_1 = getP (List.map prOf (prv (Prod.fst y))) key → ∀ (y_2 : Vl), y_2 = Option.elim y_1 (Vl.mk (0 : Int) (0 : Int) []) Pr.v → gb (Go.Proofs.Ytbghpjamahgegaa.prsOk (prv (Prod.fst y)) 4) (∀ (y_3 : Option Pr), y_3 = getP (List.map prOf (prv a)) key → ∀ (y_4 : Vl), y_4 = Option.elim y_3 (Vl.mk (0 : Int) (0 : Int) []) Pr.v → gb (Go.Proofs.Ytbghpjamahgegaa.prsOk (prv a) 4) (loopV (fun s => St.norm [] [1, 2, 7, 9, 10, 11, 12, 13] [9, 11] s) (vc Try.prog cGets code_5_1_1_1_1_1_1_0_1_0_0) (blockK 0 (thenK (fun s => cutV (vc Try.prog cGets code_5_1_1_1_1_1_1_1 (endK Try.prog (Array.toList (Go.Func.results Try.f5)) Q)) (St.norm [] [2, 7, 9, 10, 11, 12] [9, 11] s)) (endK Try.prog (Array.toList (Go.Func.results Try.f5)) Q))) (St.mk 103 [(1, AVal.slice (prv b) 4 Tag.ro), (2, AVal.str key), (7, AVal.slice (prv (Prod.fst y)) 4 Tag.ro), (9, AVal.ptr (Oid.loc 9) 0), (10, AVal.bool (hold (Option.isSome y_1))), (11, AVal.ptr (Oid.loc 11) 0), (12, AVal.bool (hold (Option.isSome y_3))), (13, AVal.int IntKind.i64 (0 : Int))] [] [(9, AObj.cells [AVal.int IntKind.i64 (Vl.k y_2), AVal.int IntKind.i64 (Vl.n y_2), AVal.str (Vl.s y_2)]), (11, AObj.cells [AVal.int IntKind.i64 (Vl.k y_4), AVal.int IntKind.i64 (Vl.n y_4), AVal.str (Vl.s y_4)])] Sto.empty)))))))) (Q (AVal.bool (hold true)) Sto.empty))) (Q (AVal.bool (hold true)) Sto.empty)) := by kernel_rfl
theorem gets_i (a b : List Pr) (key : Txt) (Q : AVal → Sto → Prop) (ho : OrcOk Try.prog cGets) (h : brV (!hold true) false (gb (List.all (prv a) isPr) (brV (!hold (smallP (List.map prOf (prv a)))) false (gb (List.all (prv b) isPr) (brV (!hold (smallP (List.map prOf (prv b)))) true (Q (AVal.bool (hold true)) Sto.empty) (∀ (y : List Pr × Int), y = setP (List.map prOf (prv a)) (List.map prOf (prv b)) → gb (Go.Proofs.Ytbghpjamahgegaa.prsOk (prv a) 4 && (Go.Proofs.Ytbghpjamahgegaa.prsOk (prv b) 4 && hold (decide (List.length (prv b) ≤ 900000)))) (brV (hold (Prod.snd y != (0 : Int))) true (Q (AVal.bool true) Sto.empty) (∀ (y_1 : Option Pr), y_1 = getP (List.map prOf (prv (Prod.fst y))) key → ∀ (y_2 : Vl), y_2 = Option.elim y_1 (Vl.mk (0 : Int) (0 : Int) []) Pr.v → gb (Go.Proofs.Ytbghpjamahgegaa.prsOk (prv (Prod.fst y)) 4) (∀ (y_3 : Option Pr), y_3 = getP (List.map prOf (prv a)) key → ∀ (y_4 : Vl), y_4 = Option.elim y_3 (Vl.mk (0 : Int) (0 : Int) []) Pr.v → gb (Go.Proofs.Ytbghpjamahgegaa.prsOk (prv a) 4) (loopV (fun s => St.norm [] [1, 2, 7, 9, 10, 11, 12, 13] [9, 11] s) (vc Try.prog cGets code_5_1_1_1_1_1_1_0_1_0_0) (blockK 0 (thenK (fun s => cutV (vc Try.prog cGets code_5_1_1_1_1_1_1_1 (endK Try.prog (Array.toList (Go.Func.results Try.f5)) Q)) (St.norm [] [2, 7, 9, 10, 11, 12] [9, 11] s)) (endK Try.prog (Array.toList (Go.Func.results Try.f5)) Q))) (St.mk 103 [(1, AVal.slice (prv b) 4 Tag.ro), (2, AVal.str key), (7, AVal.slice (prv (Prod.fst y)) 4 Tag.ro), (9, AVal.ptr (Oid.loc 9) 0), (10, AVal.bool (hold (Option.isSome y_1))), (11, AVal.ptr (Oid.loc 11) 0), (12, AVal.bool (hold (Option.isSome y_3))), (13, AVal.int IntKind.i64 (0 : Int))] [] [(9, AObj.cells [AVal.int IntKind.i64 (Vl.k y_2), AVal.int IntKind.i64 (Vl.n y_2), AVal.str (Vl.s y_2)]), (11, AObj.cells [AVal.int IntKind.i64 (Vl.k y_4), AVal.int IntKind.i64 (Vl.n y_4), AVal.str (Vl.s y_4)])] Sto.empty)))))))) (Q (AVal.bool (hold true)) Sto.empty))) (Q (AVal.bool (hold true)) Sto.empty)) : ACall Try.prog 5 [.slice (prv a) 4 .ro, .slice (prv b) 4 .ro, .str key] (Sto.empty) Q :=
  ACall.intro hmix Try.func5 (c := code_5_) (by kernel_rfl) cGets ho (Nat.le_of_ble_eq_true (by kernel_rfl)) (by rw [gets_r]; exact h)
noncomputable def getsL_S (b x : List Pr) (key : Txt) (v w : Vl) (ok is : Bool) (i : Nat) : St := St.mk 103 [(1, .slice (prv b) 4 .ro), (2, .str key), (7, .slice (prv x) 4 .ro), (9, .ptr (.loc 9) 0), (10, .bool ok), (11, .ptr (.loc 11) 0), (12, .bool is), (13, .int .i64 (i : Int))] [] [(9, .cells [.int .i64 v.k, .int .i64 v.n, .str v.s]), (11, .cells [.int .i64 w.k, .int .i64 w.n, .str w.s])] (Sto.empty)
noncomputable abbrev getsL_C : Code := code_5_1_1_1_1_1_1_0_1_0_0
theorem getsL_r (b x : List Pr) (key : Txt) (v w : Vl) (ok is : Bool) (i : Nat) (L : St → Prop) (K : Exit → St → Prop) : vc Try.prog cGets code_5_1_1_1_1_1_1_0_1_0_0 (thenK (fun s => L (St.norm [] [1, 2, 7, 9, 10, 11, 12, 13] [9, 11] s)) K) (St.mk 103 [(1, .slice (prv b) 4 .ro), (2, .str key), (7, .slice (prv x) 4 .ro), (9, .ptr (.loc 9) 0), (10, .bool ok), (11, .ptr (.loc 11) 0), (12, .bool is), (13, .int .i64 (i : Int))] [] [(9, .cells [.int .i64 v.k, .int .i64 v.n, .str v.s]), (11, .cells [.int .i64 w.k, .int .i64 w.n, .str w.s])] (Sto.empty)) =
  (brV (hold (decide ((↑i : Int) < (↑(List.length (prv b)) : Int)))) true (gb (decide ((0 : Int) ≤ (↑i : Int) ∧ (↑i : Int) < (↑(List.length (prv b)) : Int))) (gb (decide (1 ≤ List.length (List.drop 0 (elemAt (prv b) (↑i : Int))) ∧ 0 < 1) && etaOk Sh.str (List.getD (List.drop 0 (elemAt (prv b) (↑i : Int))) 0 AVal.undef)) (brV (hold (AVal.strOf (List.getD (List.drop 0 (elemAt (prv b) (↑i : Int))) 0 AVal.undef) == key)) true (gb (decide ((0 : Int) ≤ (↑i : Int) ∧ (↑i : Int) < (↑(List.length (prv b)) : Int))) (gb (decide (3 ≤ List.length (List.drop 1 (elemAt (prv b) (↑i : Int))) ∧ 0 < 3) && (etaOk (Sh.int IntKind.i64) (List.getD (List.drop 1 (elemAt (prv b) (↑i : Int))) 0 AVal.undef) && (etaOk (Sh.int IntKind.i64) (List.getD (List.drop 1 (elemAt (prv b) (↑i : Int))) 1 AVal.undef) && (etaOk Sh.str (List.getD (List.drop 1 (elemAt (prv b) (↑i : Int))) 2 AVal.undef) && true)))) (L (St.mk 103 [(1, AVal.slice (prv b) 4 Tag.ro), (2, AVal.str key), (7, AVal.slice (prv x) 4 Tag.ro), (9, AVal.ptr (Oid.loc 9) 0), (10, AVal.bool ok), (11, AVal.ptr (Oid.loc 11) 0), (12, AVal.bool true), (13, AVal.int IntKind.i64 (IntKind.wrap IntKind.i64 ((↑i : Int) + (1 : Int))))] [] [(9, AObj.cells [AVal.int IntKind.i64 (Vl.k v), AVal.int IntKind.i64 (Vl.n v), AVal.str (Vl.s v)]), (11, AObj.cells [AVal.int IntKind.i64 (AVal.intOf (List.getD (List.drop 1 (elemAt (prv b) (↑i : Int))) 0 AVal.undef)), AVal.int IntKind.i64 (AVal.intOf (List.getD (List.drop 1 (elemAt (prv b) (↑i : Int))) 1 AVal.undef)), AVal.str (AVal.strOf (List.getD (List.drop 1 (elemAt (prv b) (↑i : Int))) 2 AVal.undef))])] Sto.empty)))) (L (St.mk 103 [(1, AVal.slice (prv b) 4 Tag.ro), (2, AVal.str key), (7, AVal.slice (prv x) 4 Tag.ro), (9, AVal.ptr (Oid.loc 9) 0), (10, AVal.bool ok), (11, AVal.ptr (Oid.loc 11) 0), (12, AVal.bool is), (13, AVal.int IntKind.i64 (IntKind.wrap IntKind.i64 ((↑i : Int) + (1 : Int))))] [] [(9, AObj.cells [AVal.int IntKind.i64 (Vl.k v), AVal.int IntKind.i64 (Vl.n v), AVal.str (Vl.s v)]), (11, AObj.cells [AVal.int IntKind.i64 (Vl.k w), AVal.int IntKind.i64 (Vl.n w), AVal.str (Vl.s w)])] Sto.empty))))) (K (Exit.exit 0) (St.mk 103 [(1, AVal.slice (prv b) 4 Tag.ro), (2, AVal.str key), (7, AVal.slice (prv x) 4 Tag.ro), (9, AVal.ptr (Oid.loc 9) 0), (10, AVal.bool ok), (11, AVal.ptr (Oid.loc 11) 0), (12, AVal.bool is), (13, AVal.int IntKind.i64 (↑i : Int)), (53, AVal.bool (hold (decide ((↑i : Int) < (↑(List.length (prv b)) : Int)))))] [] [(9, AObj.cells [AVal.int IntKind.i64 (Vl.k v), AVal.int IntKind.i64 (Vl.n v), AVal.str (Vl.s v)]), (11, AObj.cells [AVal.int IntKind.i64 (Vl.k w), AVal.int IntKind.i64 (Vl.n w), AVal.str (Vl.s w)])] Sto.empty))) := by kernel_rfl
noncomputable def getsF_S (x : List Pr) (key : Txt) (v w : Vl) (ok is : Bool) : St := St.mk 103 [(2, .str key), (7, .slice (prv x) 4 .ro), (9, .ptr (.loc 9) 0), (10, .bool ok), (11, .ptr (.loc 11) 0), (12, .bool is)] [] [(9, .cells [.int .i64 v.k, .int .i64 v.n, .str v.s]), (11, .cells [.int .i64 w.k, .int .i64 w.n, .str w.s])] (Sto.empty)
noncomputable abbrev getsF_C : Code := code_5_1_1_1_1_1_1_1
theorem getsF_r (x : List Pr) (key : Txt) (v w : Vl) (ok is : Bool) (Q : AVal → Sto → Prop) : vc Try.prog cGets code_5_1_1_1_1_1_1_1 (endK Try.prog Try.f5.results.toList Q) (St.mk 103 [(2, .str key), (7, .slice (prv x) 4 .ro), (9, .ptr (.loc 9) 0), (10, .bool ok), (11, .ptr (.loc 11) 0), (12, .bool is)] [] [(9, .cells [.int .i64 v.k, .int .i64 v.n, .str v.s]), (11, .cells [.int .i64 w.k, .int .i64 w.n, .str w.s])] (Sto.empty)) =
  (∀ (y : List Pr), y = dropP (List.map prOf (prv x)) [key] → gb (Go.Proofs.Ytbghpjamahgegaa.prsOk (prv x) 4 && Go.Proofs.Ytbghpjamahgegaa.strsOk [AVal.str key] 1) (∀ (y_1 : Option Pr), y_1 = getP (List.map prOf (prv y)) key → ∀ (y_2 : Vl), y_2 = Option.elim y_1 (Vl.mk (0 : Int) (0 : Int) []) Pr.v → gb (Go.Proofs.Ytbghpjamahgegaa.prsOk (prv y) 4) (brV ok true (brV (hold (ok == is)) true (brV (hold (Vl.k v == Vl.k w && (Vl.n v == Vl.n w && (Vl.s v == Vl.s w && true)))) true (brV (!hold (Option.isSome y_1)) true (∀ (y : List Pr), y = dropP (List.map prOf (prv x)) [key] → gb (Go.Proofs.Ytbghpjamahgegaa.prsOk (prv x) 4 && Go.Proofs.Ytbghpjamahgegaa.strsOk [AVal.str key] 1) (Q (AVal.bool (hold ((↑(List.length (prv y)) : Int) == IntKind.wrap IntKind.i64 ((↑(List.length (prv x)) : Int) - (1 : Int))))) Sto.empty)) (Q (AVal.bool false) Sto.empty)) (Q (AVal.bool false) Sto.empty)) (Q (AVal.bool false) Sto.empty)) (brV (hold (ok == is)) true (brV (hold (Vl.k v == Vl.k w && (Vl.n v == Vl.n w && (Vl.s v == Vl.s w && true)))) true (brV (!hold (Option.isSome y_1)) true (∀ (y : List Pr), y = dropP (List.map prOf (prv x)) [key] → gb (Go.Proofs.Ytbghpjamahgegaa.prsOk (prv x) 4 && Go.Proofs.Ytbghpjamahgegaa.strsOk [AVal.str key] 1) (Q (AVal.bool (hold ((↑(List.length (prv y)) : Int) == (↑(List.length (prv x)) : Int)))) Sto.empty)) (Q (AVal.bool false) Sto.empty)) (Q (AVal.bool false) Sto.empty)) (Q (AVal.bool false) Sto.empty))))) := by kernel_rfl
theorem sets_r (a b : List Pr) (ks : List Txt) (Q : AVal → Sto → Prop) : vc Try.prog cSets code_6_ (endK Try.prog Try.f6.results.toList Q) (St.start Try.f6.ntmps [.slice (prv a) 4 .ro, .slice (prv b) 4 .ro, .slice (strv ks) 1 .ro] (Sto.empty)) =
  (brV (!hold true) false (gb (List.all (prv a) isPr) (brV (!hold (smallP (List.map prOf (prv a)))) false (gb (List.all (prv b) isPr) (brV (!hold (smallP (List.map prOf (prv b)))) false (brV (hold (decide ((20 : Int) < (↑(List.length (strv ks)) : Int)))) true (Q (AVal.bool (hold true)) Sto.empty) (∀ (y : List Pr), y = List.map prOf (prv a) → gb (Go.Proofs.Ytbghpjamahgegaa.prsOk (prv a) 4) (∀ (y_1 : List Pr), y_1 = List.map prOf (prv b) → gb (Go.Proofs.Ytbghpjamahgegaa.prsOk (prv b) 4) (∀ (y_2 : List Pr × Int), y_2 = setP (List.map prOf (prv y)) (List.map prOf (prv y_1)) → gb (Go.Proofs.Ytbghpjamahgegaa.prsOk (prv y) 4 && (Go.Proofs.Ytbghpjamahgegaa.prsOk (prv y_1) 4 && hold (decide (List.length (prv y_1) ≤ 900000)))) (∀ (y_3 : List Pr × Int), y_3 = setP (List.map prOf (prv a)) (List.map prOf (prv b)) → gb (Go.Proofs.Ytbghpjamahgegaa.prsOk (prv a) 4 && (Go.Proofs.Ytbghpjamahgegaa.prsOk (prv b) 4 && hold (decide (List.length (prv b) ≤ 900000)))) (∀ (y_4 : Bool), y_4 = decide (List.map prOf (prv y) = List.map prOf (prv a)) → gb (Go.Proofs.Ytbghpjamahgegaa.prsOk (prv y) 4 && Go.Proofs.Ytbghpjamahgegaa.prsOk (prv a) 4) (brV (!hold y_4) false (∀ (y_5 : Bool), y_5 = (incP (List.map prOf (prv a)) && decide (List.length (List.map prOf (prv a)) ≤ 16)) → gb (Go.Proofs.Ytbghpjamahgegaa.prsOk (prv a) 4) (∀ (y_6 : Bool), y_6 = (incP (List.map prOf (prv a)) && decide (List.length (List.map prOf (prv a)) ≤ 16)) → gb (Go.Proofs.Ytbghpjamahgegaa.prsOk (prv a) 4) (brV (!hold (hold y_5 == hold y_6)) false (brV (hold (Prod.snd y_2 != Prod.snd y_3)) false (∀ (y_7 : Bool), y_7 = decide (List.map prOf (prv (Prod.fst y_2)) = List.map prOf (prv (Prod.fst y_3))) → gb (Go.Proofs.Ytbghpjamahgegaa.prsOk (prv (Prod.fst y_2)) 4 && Go.Proofs.Ytbghpjamahgegaa.prsOk (prv (Prod.fst y_3)) 4) (brV (!hold y_7) false (∀ (y_8 : Bool), y_8 = decide (List.map prOf (prv a) = List.map prOf (prv y)) → gb (Go.Proofs.Ytbghpjamahgegaa.prsOk (prv a) 4 && Go.Proofs.Ytbghpjamahgegaa.prsOk (prv y) 4) (brV (!hold y_8) true (Q (AVal.bool false) Sto.empty) (∀ (y_9 : List Pr), y_9 = dropP (List.map prOf (prv y)) (List.map AVal.strOf (strv ks)) → gb (Go.Proofs.Ytbghpjamahgegaa.prsOk (prv y) 4 && Go.Proofs.Ytbghpjamahgegaa.strsOk (strv ks) 1) (∀ (y_10 : Bool), y_10 = decide (List.map prOf (prv y) = List.map prOf (prv a)) → gb (Go.Proofs.Ytbghpjamahgegaa.prsOk (prv y) 4 && Go.Proofs.Ytbghpjamahgegaa.prsOk (prv a) 4) (brV (!hold y_10) false (∀ (y : List Pr), y = dropP (List.map prOf (prv a)) (List.map AVal.strOf (strv ks)) → gb (Go.Proofs.Ytbghpjamahgegaa.prsOk (prv a) 4 && (List.all (strv ks) strIs && hold (decide (List.length (strv ks) ≤ 1000000)))) (∀ (y_11 : Bool), y_11 = decide (List.map prOf (prv y_9) = List.map prOf (prv y)) → gb (Go.Proofs.Ytbghpjamahgegaa.prsOk (prv y_9) 4 && Go.Proofs.Ytbghpjamahgegaa.prsOk (prv y) 4) (brV (!hold y_11) true (Q (AVal.bool false) Sto.empty) (loopV (fun s => St.norm [] [0, 2, 8, 11, 13] [] s) (vc Try.prog cSets code_6_1_1_1_1_1_1_1_1_0_1_0_0) (blockK 0 (thenK (fun s => cutV (vc Try.prog cSets code_6_1_1_1_1_1_1_1_1_1 (endK Try.prog (Array.toList (Go.Func.results Try.f6)) Q)) (St.norm [] [2, 8, 11] [] s)) (endK Try.prog (Array.toList (Go.Func.results Try.f6)) Q))) (St.mk 151 [(0, AVal.slice (prv a) 4 Tag.ro), (2, AVal.slice (strv ks) 1 Tag.ro), (8, AVal.slice (prv (Prod.fst y_2)) 4 Tag.ro), (11, AVal.int IntKind.i64 (Prod.snd y_3)), (13, AVal.int IntKind.i64 (0 : Int))] [] [] Sto.empty))))) (Q (AVal.bool false) Sto.empty)))))) (Q (AVal.bool false) Sto.empty))) (Q (AVal.bool false) Sto.empty)) (Q (AVal.bool false) Sto.empty)))) (Q (AVal.bool false) Sto.empty)))))))) (Q (AVal.bool (hold true)) Sto.empty))) (Q (AVal.bool (hold true)) Sto.empty))) (Q (AVal.bool (hold true)) Sto.empty)) := by kernel_rfl
theorem sets_i (a b : List Pr) (ks : List Txt) (Q : AVal → Sto → Prop) (ho : OrcOk Try.prog cSets) (h : brV (!hold true) false (gb (List.all (prv a) isPr) (brV (!hold (smallP (List.map prOf (prv a)))) false (gb (List.all (prv b) isPr) (brV (!hold (smallP (List.map prOf (prv b)))) false (brV (hold (decide ((20 : Int) < (↑(List.length (strv ks)) : Int)))) true (Q (AVal.bool (hold true)) Sto.empty) (∀ (y : List Pr), y = List.map prOf (prv a) → gb (Go.Proofs.Ytbghpjamahgegaa.prsOk (prv a) 4) (∀ (y_1 : List Pr), y_1 = List.map prOf (prv b) → gb (Go.Proofs.Ytbghpjamahgegaa.prsOk (prv b) 4) (∀ (y_2 : List Pr × Int), y_2 = setP (List.map prOf (prv y)) (List.map prOf (prv y_1)) → gb (Go.Proofs.Ytbghpjamahgegaa.prsOk (prv y) 4 && (Go.Proofs.Ytbghpjamahgegaa.prsOk (prv y_1) 4 && hold (decide (List.length (prv y_1) ≤ 900000)))) (∀ (y_3 : List Pr × Int), y_3 = setP (List.map prOf (prv a)) (List.map prOf (prv b)) → gb (Go.Proofs.Ytbghpjamahgegaa.prsOk (prv a) 4 && (Go.Proofs.Ytbghpjamahgegaa.prsOk (prv b) 4 && hold (decide (List.length (prv b) ≤ 900000)))) (∀ (y_4 : Bool), y_4 = decide (List.map prOf (prv y) = List.map prOf (prv a)) → gb (Go.Proofs.Ytbghpjamahgegaa.prsOk (prv y) 4 && Go.Proofs.Ytbghpjamahgegaa.prsOk (prv a) 4) (brV (!hold y_4) false (∀ (y_5 : Bool), y_5 = (incP (List.map prOf (prv a)) && decide (List.length (List.map prOf (prv a)) ≤ 16)) → gb (Go.Proofs.Ytbghpjamahgegaa.prsOk (prv a) 4) (∀ (y_6 : Bool), y_6 = (incP (List.map prOf (prv a)) && decide (List.length (List.map prOf (prv a)) ≤ 16)) → gb (Go.Proofs.Ytbghpjamahgegaa.prsOk (prv a) 4) (brV (!hold (hold y_5 == hold y_6)) false (brV (hold (Prod.snd y_2 != Prod.snd y_3)) false (∀ (y_7 : Bool), y_7 = decide (List.map prOf (prv (Prod.fst y_2)) = List.map prOf (prv (Prod.fst y_3))) → gb (Go.Proofs.Ytbghpjamahgegaa.prsOk (prv (Prod.fst y_2)) 4 && Go.Proofs.Ytbghpjamahgegaa.prsOk (prv (Prod.fst y_3)) 4) (brV (!hold y_7) false (∀ (y_8 : Bool), y_8 = decide (List.map prOf (prv a) = List.map prOf (prv y)) → gb (Go.Proofs.Ytbghpjamahgegaa.prsOk (prv a) 4 && Go.Proofs.Ytbghpjamahgegaa.prsOk (prv y) 4) (brV (!hold y_8) true (Q (AVal.bool false) Sto.empty) (∀ (y_9 : List Pr), y_9 = dropP (List.map prOf (prv y)) (List.map AVal.strOf (strv ks)) → gb (Go.Proofs.Ytbghpjamahgegaa.prsOk (prv y) 4 && Go.Proofs.Ytbghpjamahgegaa.strsOk (strv ks) 1) (∀ (y_10 : Bool), y_10 = decide (List.map prOf (prv y) = List.map prOf (prv a)) → gb (Go.Proofs.Ytbghpjamahgegaa.prsOk (prv y) 4 && Go.Proofs.Ytbghpjamahgegaa.prsOk (prv a) 4) (brV (!hold y_10) false (∀ (y : List Pr), y = dropP (List.map prOf (prv a)) (List.map AVal.strOf (strv ks)) → gb (Go.Proofs.Ytbghpjamahgegaa.prsOk (prv a) 4 && (List.all (strv ks) strIs && hold (decide (List.length (strv ks) ≤ 1000000)))) (∀ (y_11 : Bool), y_11 = decide (List.map prOf (prv y_9) = List.map prOf (prv y)) → gb (Go.Proofs.Ytbghpjamahgegaa.prsOk (prv y_9) 4 && Go.Proofs.Ytbghpjamahgegaa.prsOk (prv y) 4) (brV (!hold y_11) true (Q (AVal.bool false) Sto.empty) (loopV (fun s => St.norm [] [0, 2, 8, 11, 13] [] s) (vc Try.prog cSets code_6_1_1_1_1_1_1_1_1_0_1_0_0) (blockK 0 (thenK (fun s => cutV (vc Try.prog cSets code_6_1_1_1_1_1_1_1_1_1 (endK Try.prog (Array.toList (Go.Func.results Try.f6)) Q)) (St.norm [] [2, 8, 11] [] s)) (endK Try.prog (Array.toList (Go.Func.results Try.f6)) Q))) (St.mk 151 [(0, AVal.slice (prv a) 4 Tag.ro), (2, AVal.slice (strv ks) 1 Tag.ro), (8, AVal.slice (prv (Prod.fst y_2)) 4 Tag.ro), (11, AVal.int IntKind.i64 (Prod.snd y_3)), (13, AVal.int IntKind.i64 (0 : Int))] [] [] Sto.empty))))) (Q (AVal.bool false) Sto.empty)))))) (Q (AVal.bool false) Sto.empty))) (Q (AVal.bool false) Sto.empty)) (Q (AVal.bool false) Sto.empty)))) (Q (AVal.bool false) Sto.empty)))))))) (Q (AVal.bool (hold true)) Sto.empty))) (Q (AVal.bool (hold true)) Sto.empty))) (Q (AVal.bool (hold true)) Sto.empty)) : ACall Try.prog 6 [.slice (prv a) 4 .ro, .slice (prv b) 4 .ro, .slice (strv ks) 1 .ro] (Sto.empty) Q :=
  ACall.intro hmix Try.func6 (c := code_6_) (by kernel_rfl) cSets ho (Nat.le_of_ble_eq_true (by kernel_rfl)) (by rw [sets_r]; exact h)
noncomputable def setsL_S (a x : List Pr) (ks : List Txt) (f : Int) (i : Nat) : St := St.mk 151 [(0, .slice (prv a) 4 .ro), (2, .slice (strv ks) 1 .ro), (8, .slice (prv x) 4 .ro), (11, .int .i64 f), (13, .int .i64 (i : Int))] [] [] (Sto.empty)
noncomputable abbrev setsL_C : Code := code_6_1_1_1_1_1_1_1_1_0_1_0_0
theorem setsL_r (a x : List Pr) (ks : List Txt) (f : Int) (i : Nat) (L : St → Prop) (K : Exit → St → Prop) : vc Try.prog cSets code_6_1_1_1_1_1_1_1_1_0_1_0_0 (thenK (fun s => L (St.norm [] [0, 2, 8, 11, 13] [] s)) K) (St.mk 151 [(0, .slice (prv a) 4 .ro), (2, .slice (strv ks) 1 .ro), (8, .slice (prv x) 4 .ro), (11, .int .i64 f), (13, .int .i64 (i : Int))] [] [] (Sto.empty)) =
  (brV (hold (decide ((↑i : Int) < (↑(List.length (strv ks)) : Int)))) true (gb (decide ((0 : Int) ≤ (↑i : Int) ∧ (↑i : Int) < (↑(List.length (strv ks)) : Int))) (gb (decide (1 ≤ List.length (elemAt (strv ks) (↑i : Int)) ∧ 0 < 1) && etaOk Sh.str (List.getD (elemAt (strv ks) (↑i : Int)) 0 AVal.undef)) (∀ (y : Option Pr), y = getP (List.map prOf (prv a)) (AVal.strOf (List.getD (elemAt (strv ks) (↑i : Int)) 0 AVal.undef)) → ∀ (y_1 : Vl), y_1 = Option.elim y (Vl.mk (0 : Int) (0 : Int) []) Pr.v → gb (Go.Proofs.Ytbghpjamahgegaa.prsOk (prv a) 4) (gb (decide ((0 : Int) ≤ (↑i : Int) ∧ (↑i : Int) < (↑(List.length (strv ks)) : Int))) (gb (decide (1 ≤ List.length (elemAt (strv ks) (↑i : Int)) ∧ 0 < 1) && etaOk Sh.str (List.getD (elemAt (strv ks) (↑i : Int)) 0 AVal.undef)) (∀ (y_2 : Bool), (y_2 = List.any (List.map prOf (prv a)) fun (p : Pr) ↦ Pr.key p == AVal.strOf (List.getD (elemAt (strv ks) (↑i : Int)) 0 AVal.undef)) → ∀ (y_3 : Int), (y_3 = if y_2 = true then (↑(List.findIdx (fun (p : Pr) ↦ Pr.key p == AVal.strOf (List.getD (elemAt (strv ks) (↑i : Int)) 0 AVal.undef)) (List.map prOf (prv a))) : Int) else (-1 : Int)) → gb (Go.Proofs.Ytbghpjamahgegaa.prsOk (prv a) 4) (brV (!hold (hold (Option.isSome y) == hold (decide ((0 : Int) ≤ y_3)))) false (brV (hold (Option.isSome y)) true (gb (decide ((0 : Int) ≤ y_3 ∧ y_3 < (↑(List.length (prv a)) : Int))) (gb (decide (3 ≤ List.length (List.drop 1 (elemAt (prv a) y_3)) ∧ 0 < 3) && (etaOk (Sh.int IntKind.i64) (List.getD (List.drop 1 (elemAt (prv a) y_3)) 0 AVal.undef) && (etaOk (Sh.int IntKind.i64) (List.getD (List.drop 1 (elemAt (prv a) y_3)) 1 AVal.undef) && (etaOk Sh.str (List.getD (List.drop 1 (elemAt (prv a) y_3)) 2 AVal.undef) && true)))) (brV (!hold (Vl.k y_1 == AVal.intOf (List.getD (List.drop 1 (elemAt (prv a) y_3)) 0 AVal.undef) && (Vl.n y_1 == AVal.intOf (List.getD (List.drop 1 (elemAt (prv a) y_3)) 1 AVal.undef) && (Vl.s y_1 == AVal.strOf (List.getD (List.drop 1 (elemAt (prv a) y_3)) 2 AVal.undef) && true)))) false (brV (!hold (Option.isSome y)) true (brV (!hold (Vl.k y_1 == (0 : Int) && (Vl.n y_1 == (0 : Int) && (Vl.s y_1 == [] && true)))) true (K Exit.ret (St.mk 151 [(0, AVal.slice (prv a) 4 Tag.ro), (2, AVal.slice (strv ks) 1 Tag.ro), (8, AVal.slice (prv x) 4 Tag.ro), (11, AVal.int IntKind.i64 f), (13, AVal.int IntKind.i64 (↑i : Int)), (96, AVal.bool (hold (decide ((↑i : Int) < (↑(List.length (strv ks)) : Int))))), (14, AVal.ptr (Oid.loc 14) 0), (15, AVal.bool (hold (Option.isSome y))), (16, AVal.int IntKind.i64 y_3), (138, AVal.bool !hold (Vl.k y_1 == (0 : Int) && (Vl.n y_1 == (0 : Int) && (Vl.s y_1 == [] && true)))), (6, AVal.bool false)] [] [(14, AObj.cells [AVal.int IntKind.i64 (Vl.k y_1), AVal.int IntKind.i64 (Vl.n y_1), AVal.str (Vl.s y_1)])] Sto.empty)) (L (St.mk 151 [(0, AVal.slice (prv a) 4 Tag.ro), (2, AVal.slice (strv ks) 1 Tag.ro), (8, AVal.slice (prv x) 4 Tag.ro), (11, AVal.int IntKind.i64 f), (13, AVal.int IntKind.i64 (IntKind.wrap IntKind.i64 ((↑i : Int) + (1 : Int))))] [] [] Sto.empty))) (L (St.mk 151 [(0, AVal.slice (prv a) 4 Tag.ro), (2, AVal.slice (strv ks) 1 Tag.ro), (8, AVal.slice (prv x) 4 Tag.ro), (11, AVal.int IntKind.i64 f), (13, AVal.int IntKind.i64 (IntKind.wrap IntKind.i64 ((↑i : Int) + (1 : Int))))] [] [] Sto.empty))) (K Exit.ret (St.mk 151 [(0, AVal.slice (prv a) 4 Tag.ro), (2, AVal.slice (strv ks) 1 Tag.ro), (8, AVal.slice (prv x) 4 Tag.ro), (11, AVal.int IntKind.i64 f), (13, AVal.int IntKind.i64 (↑i : Int)), (96, AVal.bool (hold (decide ((↑i : Int) < (↑(List.length (strv ks)) : Int))))), (14, AVal.ptr (Oid.loc 14) 0), (15, AVal.bool (hold (Option.isSome y))), (16, AVal.int IntKind.i64 y_3), (138, AVal.bool true), (6, AVal.bool false)] [] [(14, AObj.cells [AVal.int IntKind.i64 (Vl.k y_1), AVal.int IntKind.i64 (Vl.n y_1), AVal.str (Vl.s y_1)])] Sto.empty))))) (brV (!hold (Option.isSome y)) true (brV (!hold (Vl.k y_1 == (0 : Int) && (Vl.n y_1 == (0 : Int) && (Vl.s y_1 == [] && true)))) true (K Exit.ret (St.mk 151 [(0, AVal.slice (prv a) 4 Tag.ro), (2, AVal.slice (strv ks) 1 Tag.ro), (8, AVal.slice (prv x) 4 Tag.ro), (11, AVal.int IntKind.i64 f), (13, AVal.int IntKind.i64 (↑i : Int)), (96, AVal.bool (hold (decide ((↑i : Int) < (↑(List.length (strv ks)) : Int))))), (14, AVal.ptr (Oid.loc 14) 0), (15, AVal.bool (hold (Option.isSome y))), (16, AVal.int IntKind.i64 y_3), (138, AVal.bool !hold (Vl.k y_1 == (0 : Int) && (Vl.n y_1 == (0 : Int) && (Vl.s y_1 == [] && true)))), (6, AVal.bool false)] [] [(14, AObj.cells [AVal.int IntKind.i64 (Vl.k y_1), AVal.int IntKind.i64 (Vl.n y_1), AVal.str (Vl.s y_1)])] Sto.empty)) (L (St.mk 151 [(0, AVal.slice (prv a) 4 Tag.ro), (2, AVal.slice (strv ks) 1 Tag.ro), (8, AVal.slice (prv x) 4 Tag.ro), (11, AVal.int IntKind.i64 f), (13, AVal.int IntKind.i64 (IntKind.wrap IntKind.i64 ((↑i : Int) + (1 : Int))))] [] [] Sto.empty))) (L (St.mk 151 [(0, AVal.slice (prv a) 4 Tag.ro), (2, AVal.slice (strv ks) 1 Tag.ro), (8, AVal.slice (prv x) 4 Tag.ro), (11, AVal.int IntKind.i64 f), (13, AVal.int IntKind.i64 (IntKind.wrap IntKind.i64 ((↑i : Int) + (1 : Int))))] [] [] Sto.empty)))) (K Exit.ret (St.mk 151 [(0, AVal.slice (prv a) 4 Tag.ro), (2, AVal.slice (strv ks) 1 Tag.ro), (8, AVal.slice (prv x) 4 Tag.ro), (11, AVal.int IntKind.i64 f), (13, AVal.int IntKind.i64 (↑i : Int)), (96, AVal.bool (hold (decide ((↑i : Int) < (↑(List.length (strv ks)) : Int))))), (14, AVal.ptr (Oid.loc 14) 0), (15, AVal.bool (hold (Option.isSome y))), (16, AVal.int IntKind.i64 y_3), (138, AVal.bool true), (6, AVal.bool false)] [] [(14, AObj.cells [AVal.int IntKind.i64 (Vl.k y_1), AVal.int IntKind.i64 (Vl.n y_1), AVal.str (Vl.s y_1)])] Sto.empty))))))))) (K (Exit.exit 0) (St.mk 151 [(0, AVal.slice (prv a) 4 Tag.ro), (2, AVal.slice (strv ks) 1 Tag.ro), (8, AVal.slice (prv x) 4 Tag.ro), (11, AVal.int IntKind.i64 f), (13, AVal.int IntKind.i64 (↑i : Int)), (96, AVal.bool (hold (decide ((↑i : Int) < (↑(List.length (strv ks)) : Int)))))] [] [] Sto.empty))) := by kernel_rfl
noncomputable def setsF_S (x : List Pr) (ks : List Txt) (f : Int) : St := St.mk 151 [(2, .slice (strv ks) 1 .ro), (8, .slice (prv x) 4 .ro), (11, .int .i64 f)] [] [] (Sto.empty)
noncomputable abbrev setsF_C : Code := code_6_1_1_1_1_1_1_1_1_1
theorem setsF_r (x : List Pr) (ks : List Txt) (f : Int) (Q : AVal → Sto → Prop) : vc Try.prog cSets code_6_1_1_1_1_1_1_1_1_1 (endK Try.prog Try.f6.results.toList Q) (St.mk 151 [(2, .slice (strv ks) 1 .ro), (8, .slice (prv x) 4 .ro), (11, .int .i64 f)] [] [] (Sto.empty)) =
  (brV (hold (f != (0 : Int))) false (∀ (y : Bool), y = (incP (List.map prOf (prv x)) && decide (List.length (List.map prOf (prv x)) ≤ 16)) → gb (Go.Proofs.Ytbghpjamahgegaa.prsOk (prv x) 4) (brV (hold y) true (∀ (y : List Pr), y = dropP (List.map prOf (prv x)) (List.map AVal.strOf (strv ks)) → gb (Go.Proofs.Ytbghpjamahgegaa.prsOk (prv x) 4 && Go.Proofs.Ytbghpjamahgegaa.strsOk (strv ks) 1) (∀ (y_1 : Bool), y_1 = (incP (List.map prOf (prv y)) && decide (List.length (List.map prOf (prv y)) ≤ 16)) → gb (Go.Proofs.Ytbghpjamahgegaa.prsOk (prv y) 4) (Q (AVal.bool (hold y_1)) Sto.empty))) (Q (AVal.bool false) Sto.empty))) (Q (AVal.bool true) Sto.empty)) := by kernel_rfl
end Go.Proofs.Ytbghpjamahgegaa.Pg5
end

section
set_option maxRecDepth 100000
set_option maxHeartbeats 0
set_option linter.unusedVariables false
namespace Go.Proofs.Ytbghpjamahgegaa.Pz
open Go.AL Go.Proofs
noncomputable def cContS : Cfg := { keep := [0, 1, 4], cut := [], orc := ofList [idxSE] }
noncomputable def cDrop1 : Cfg := { keep := [0, 1, 2, 3], cut := [], orc := ofList [containsSE] }
noncomputable def cIndexD : Cfg := { keep := [0, 1, 4, 5, 7, 8, 9, 16], cut := [(5, [0, 1, 7, 8], [])], orc := ofList [drop1E] }
noncomputable def cDropR : Cfg := { keep := [0, 1, 4, 5, 6, 7, 8, 12, 18, 35], cut := [(7, [0, 1, 5, 6], []), (15, [0, 1, 5, 6, 7, 8], []), (8, [0, 1, 5, 6], []), (14, [0, 1, 5, 6, 7, 8], []), (20, [0, 1, 5, 6, 7], []), (24, [5], [])], grow := [(5, 4)] }
noncomputable def cSetR : Cfg := { keep := [0, 1, 4, 5, 6, 7, 10, 17, 26, 33, 42], cut := [(13, [1, 6, 7], []), (26, [6], [])], orc := ofList [rightRE, Lt.rightRE, V.rightRE, putRE], grow := [(6, 1004)] }
noncomputable def cAwake : Cfg := { keep := [0, 1, 2, 3, 4], cut := [], orc := ofList [numE, textE, setE, bytesE, sameRE] }
noncomputable def code_19_ : Code := (Try.f19.body).getD .skip
noncomputable def code_21_ : Code := (Try.f21.body).getD .skip
noncomputable def code_39_ : Code := (Try.f39.body).getD .skip
noncomputable def code_40_ : Code := (Try.f40.body).getD .skip
noncomputable def code_41_ : Code := (Try.f41.body).getD .skip
noncomputable def code_8_ : Code := (Try.f8.body).getD .skip
noncomputable def code_41_1_1 : Code := codeAt code_41_ [1, 1]
noncomputable def code_21_1_1_1 : Code := codeAt code_21_ [1, 1, 1]
noncomputable def code_19_1_1_1_1_1 : Code := codeAt code_19_ [1, 1, 1, 1, 1]
noncomputable def code_41_1_0_1_0_0 : Code := codeAt code_41_ [1, 0, 1, 0, 0]
noncomputable def code_21_1_1_0_1_0_0 : Code := codeAt code_21_ [1, 1, 0, 1, 0, 0]
noncomputable def code_19_1_1_1_1_0_1_0_0 : Code := codeAt code_19_ [1, 1, 1, 1, 0, 1, 0, 0]
noncomputable def code_21_1_1_0_1_0_0_1_1 : Code := codeAt code_21_ [1, 1, 0, 1, 0, 0, 1, 1]
noncomputable def code_21_1_1_0_1_0_0_1_0_0_1_1 : Code := codeAt code_21_ [1, 1, 0, 1, 0, 0, 1, 0, 0, 1, 1]
noncomputable def code_21_1_1_0_1_0_0_1_0_0_1_0_1 : Code := codeAt code_21_ [1, 1, 0, 1, 0, 0, 1, 0, 0, 1, 0, 1]
noncomputable def code_21_1_1_0_1_0_0_1_0_0_1_0_1_0_0 : Code := codeAt code_21_ [1, 1, 0, 1, 0, 0, 1, 0, 0, 1, 0, 1, 0, 0]
theorem contS_r (l : List Txt) (s : Txt) (Q : AVal → Sto → Prop) : vc Try.prog cContS code_40_ (endK Try.prog Try.f40.results.toList Q) (St.start Try.f40.ntmps [.slice (strv l) 1 .ro, .str s] (Sto.empty)) =
  (∀ (y : Bool), y = List.contains (List.map AVal.strOf (strv l)) s → ∀ (y_1 : Int), (y_1 = if y = true then (↑(List.idxOf s (List.map AVal.strOf (strv l))) : Int) else (-1 : Int)) → gb (Go.Proofs.Ytbghpjamahgegaa.strsOk (strv l) 1) (Q (AVal.bool (hold (decide ((0 : Int) ≤ y_1)))) Sto.empty)) := by kernel_rfl
theorem contS_i (l : List Txt) (s : Txt) (Q : AVal → Sto → Prop) (ho : OrcOk Try.prog cContS) (h : ∀ (y : Bool), y = List.contains (List.map AVal.strOf (strv l)) s → ∀ (y_1 : Int), (y_1 = if y = true then (↑(List.idxOf s (List.map AVal.strOf (strv l))) : Int) else (-1 : Int)) → gb (Go.Proofs.Ytbghpjamahgegaa.strsOk (strv l) 1) (Q (AVal.bool (hold (decide ((0 : Int) ≤ y_1)))) Sto.empty)) : ACall Try.prog 40 [.slice (strv l) 1 .ro, .str s] (Sto.empty) Q :=
  ACall.intro hmix Try.func40 (c := code_40_) (by kernel_rfl) cContS ho (Nat.le_of_ble_eq_true (by kernel_rfl)) (by rw [contS_r]; exact h)
theorem drop1_r (key : Txt) (k n : Int) (s : Txt) (ks : List Txt) (Q : AVal → Sto → Prop) : vc Try.prog cDrop1 code_39_ (endK Try.prog Try.f39.results.toList Q) (St.start Try.f39.ntmps [.agg [.str key, .int .i64 k, .int .i64 n, .str s], .iptr [.slice (strv ks) 1 .ro]] (Sto.empty)) =
  (∀ (y : Bool), y = List.contains (List.map AVal.strOf (strv ks)) key → gb (Go.Proofs.Ytbghpjamahgegaa.strsOk (strv ks) 1) (Q (AVal.bool (hold y)) Sto.empty)) := by kernel_rfl
theorem drop1_i (key : Txt) (k n : Int) (s : Txt) (ks : List Txt) (Q : AVal → Sto → Prop) (ho : OrcOk Try.prog cDrop1) (h : ∀ (y : Bool), y = List.contains (List.map AVal.strOf (strv ks)) key → gb (Go.Proofs.Ytbghpjamahgegaa.strsOk (strv ks) 1) (Q (AVal.bool (hold y)) Sto.empty)) : ACall Try.prog 39 [.agg [.str key, .int .i64 k, .int .i64 n, .str s], .iptr [.slice (strv ks) 1 .ro]] (Sto.empty) Q :=
  ACall.intro hmix Try.func39 (c := code_39_) (by kernel_rfl) cDrop1 ho (Nat.le_of_ble_eq_true (by kernel_rfl)) (by rw [drop1_r]; exact h)
theorem indexD_r (l : List Pr) (ks : List Txt) (Q : AVal → Sto → Prop) : vc Try.prog cIndexD code_41_ (endK Try.prog Try.f41.results.toList Q) (St.start Try.f41.ntmps [.slice (prv l) 4 .ro, .func (.func 39) [] [.iptr [.slice (strv ks) 1 .ro]]] (Sto.empty)) =
  (loopV (fun s => St.norm [] [0, 1, 7, 8] [] s) (vc Try.prog cIndexD code_41_1_0_1_0_0) (blockK 0 (thenK (vc Try.prog cIndexD code_41_1_1 (endK Try.prog (Array.toList (Go.Func.results Try.f41)) Q)) (endK Try.prog (Array.toList (Go.Func.results Try.f41)) Q))) (St.mk 19 [(0, AVal.slice (prv l) 4 Tag.ro), (1, AVal.func (Go.Fn.func 39) [] [AVal.iptr [AVal.slice (strv ks) 1 Tag.ro]]), (7, AVal.int IntKind.i64 (↑(List.length (prv l)) : Int)), (8, AVal.int IntKind.i64 (0 : Int))] [] [] Sto.empty)) := by kernel_rfl
theorem indexD_i (l : List Pr) (ks : List Txt) (Q : AVal → Sto → Prop) (ho : OrcOk Try.prog cIndexD) (h : loopV (fun s => St.norm [] [0, 1, 7, 8] [] s) (vc Try.prog cIndexD code_41_1_0_1_0_0) (blockK 0 (thenK (vc Try.prog cIndexD code_41_1_1 (endK Try.prog (Array.toList (Go.Func.results Try.f41)) Q)) (endK Try.prog (Array.toList (Go.Func.results Try.f41)) Q))) (St.mk 19 [(0, AVal.slice (prv l) 4 Tag.ro), (1, AVal.func (Go.Fn.func 39) [] [AVal.iptr [AVal.slice (strv ks) 1 Tag.ro]]), (7, AVal.int IntKind.i64 (↑(List.length (prv l)) : Int)), (8, AVal.int IntKind.i64 (0 : Int))] [] [] Sto.empty)) : ACall Try.prog 41 [.slice (prv l) 4 .ro, .func (.func 39) [] [.iptr [.slice (strv ks) 1 .ro]]] (Sto.empty) Q :=
  ACall.intro hmix Try.func41 (c := code_41_) (by kernel_rfl) cIndexD ho (Nat.le_of_ble_eq_true (by kernel_rfl)) (by rw [indexD_r]; exact h)
noncomputable def indexDL_S (l : List Pr) (ks : List Txt) (n i : Nat) : St := St.mk 19 [(0, .slice (prv l) 4 .ro), (1, .func (.func 39) [] [.iptr [.slice (strv ks) 1 .ro]]), (7, .int .i64 (n : Int)), (8, .int .i64 (i : Int))] [] [] (Sto.empty)
noncomputable abbrev indexDL_C : Code := code_41_1_0_1_0_0
theorem indexDL_r (l : List Pr) (ks : List Txt) (n i : Nat) (L : St → Prop) (K : Exit → St → Prop) : vc Try.prog cIndexD code_41_1_0_1_0_0 (thenK (fun s => L (St.norm [] [0, 1, 7, 8] [] s)) K) (St.mk 19 [(0, .slice (prv l) 4 .ro), (1, .func (.func 39) [] [.iptr [.slice (strv ks) 1 .ro]]), (7, .int .i64 (n : Int)), (8, .int .i64 (i : Int))] [] [] (Sto.empty)) =
  (brV (hold (decide ((↑i : Int) < (↑n : Int)))) true (gb (decide ((0 : Int) ≤ (↑i : Int) ∧ (↑i : Int) < (↑(List.length (prv l)) : Int))) (gb (decide (4 ≤ List.length (elemAt (prv l) (↑i : Int)) ∧ 0 < 4) && (etaOk Sh.str (List.getD (elemAt (prv l) (↑i : Int)) 0 AVal.undef) && (etaOk (Sh.int IntKind.i64) (List.getD (elemAt (prv l) (↑i : Int)) 1 AVal.undef) && (etaOk (Sh.int IntKind.i64) (List.getD (elemAt (prv l) (↑i : Int)) 2 AVal.undef) && (etaOk Sh.str (List.getD (elemAt (prv l) (↑i : Int)) 3 AVal.undef) && true))))) (∀ (y : Bool), y = List.contains (List.map AVal.strOf (strv ks)) (AVal.strOf (List.getD (elemAt (prv l) (↑i : Int)) 0 AVal.undef)) → gb (Go.Proofs.Ytbghpjamahgegaa.strsOk (strv ks) 1) (brV (hold y) true (K Exit.ret (St.mk 19 [(0, AVal.slice (prv l) 4 Tag.ro), (1, AVal.func (Go.Fn.func 39) [] [AVal.iptr [AVal.slice (strv ks) 1 Tag.ro]]), (7, AVal.int IntKind.i64 (↑n : Int)), (8, AVal.int IntKind.i64 (↑i : Int)), (9, AVal.bool (hold (decide ((↑i : Int) < (↑n : Int))))), (5, AVal.int IntKind.i64 (↑i : Int)), (16, AVal.bool (hold y)), (4, AVal.int IntKind.i64 (↑i : Int))] [] [] Sto.empty)) (L (St.mk 19 [(0, AVal.slice (prv l) 4 Tag.ro), (1, AVal.func (Go.Fn.func 39) [] [AVal.iptr [AVal.slice (strv ks) 1 Tag.ro]]), (7, AVal.int IntKind.i64 (↑n : Int)), (8, AVal.int IntKind.i64 (IntKind.wrap IntKind.i64 ((↑i : Int) + (1 : Int))))] [] [] Sto.empty)))))) (K (Exit.exit 0) (St.mk 19 [(0, AVal.slice (prv l) 4 Tag.ro), (1, AVal.func (Go.Fn.func 39) [] [AVal.iptr [AVal.slice (strv ks) 1 Tag.ro]]), (7, AVal.int IntKind.i64 (↑n : Int)), (8, AVal.int IntKind.i64 (↑i : Int)), (9, AVal.bool (hold (decide ((↑i : Int) < (↑n : Int)))))] [] [] Sto.empty))) := by kernel_rfl
theorem dropR_r (l : List Pr) (ks : List Txt) (Q : AVal → Sto → Prop) : vc Try.prog cDropR code_21_ (endK Try.prog Try.f21.results.toList Q) (St.start Try.f21.ntmps [.slice (prv l) 4 .ro, .slice (strv ks) 1 .ro] (Sto.empty)) =
  (loopV (fun s => St.norm [(5, 4)] [0, 1, 5, 6] [] s) (vc Try.prog cDropR code_21_1_1_0_1_0_0) (blockK 0 (thenK (fun s => cutV (vc Try.prog cDropR code_21_1_1_1 (endK Try.prog (Array.toList (Go.Func.results Try.f21)) Q)) (St.norm [(5, 4)] [5] [] s)) (endK Try.prog (Array.toList (Go.Func.results Try.f21)) Q))) (St.mk 44 [(0, AVal.slice (prv l) 4 Tag.ro), (1, AVal.slice (strv ks) 1 Tag.ro), (5, AVal.slice [] 4 (Tag.own 0)), (6, AVal.int IntKind.i64 (0 : Int))] [] [] (Sto.pushOwn Sto.empty 0))) := by kernel_rfl
theorem dropR_i (l : List Pr) (ks : List Txt) (Q : AVal → Sto → Prop) (ho : OrcOk Try.prog cDropR) (h : loopV (fun s => St.norm [(5, 4)] [0, 1, 5, 6] [] s) (vc Try.prog cDropR code_21_1_1_0_1_0_0) (blockK 0 (thenK (fun s => cutV (vc Try.prog cDropR code_21_1_1_1 (endK Try.prog (Array.toList (Go.Func.results Try.f21)) Q)) (St.norm [(5, 4)] [5] [] s)) (endK Try.prog (Array.toList (Go.Func.results Try.f21)) Q))) (St.mk 44 [(0, AVal.slice (prv l) 4 Tag.ro), (1, AVal.slice (strv ks) 1 Tag.ro), (5, AVal.slice [] 4 (Tag.own 0)), (6, AVal.int IntKind.i64 (0 : Int))] [] [] (Sto.pushOwn Sto.empty 0))) : ACall Try.prog 21 [.slice (prv l) 4 .ro, .slice (strv ks) 1 .ro] (Sto.empty) Q :=
  ACall.intro hmix Try.func21 (c := code_21_) (by kernel_rfl) cDropR ho (Nat.le_of_ble_eq_true (by kernel_rfl)) (by rw [dropR_r]; exact h)
noncomputable def dropRL_S (l : List Pr) (ks : List Txt) (o : List Pr) (i : Nat) : St := St.mk 44 [(0, .slice (prv l) 4 .ro), (1, .slice (strv ks) 1 .ro), (5, .slice (prv o) 4 (.own 0)), (6, .int .i64 (i : Int))] [] [] (Sto.pushOwn Sto.empty (prv o).length)
noncomputable abbrev dropRL_C : Code := code_21_1_1_0_1_0_0
theorem dropRL_r (l : List Pr) (ks : List Txt) (o : List Pr) (i : Nat) (L : St → Prop) (K : Exit → St → Prop) : vc Try.prog cDropR code_21_1_1_0_1_0_0 (thenK (fun s => L (St.norm [(5, 4)] [0, 1, 5, 6] [] s)) K) (St.mk 44 [(0, .slice (prv l) 4 .ro), (1, .slice (strv ks) 1 .ro), (5, .slice (prv o) 4 (.own 0)), (6, .int .i64 (i : Int))] [] [] (Sto.pushOwn Sto.empty (prv o).length)) =
  (brV (hold (decide ((↑i : Int) < (↑(List.length (prv l)) : Int)))) true (cutV (vc Try.prog cDropR code_21_1_1_0_1_0_0_1_0_0_1_0_1 (thenK (fun s => cutV (vc Try.prog cDropR code_21_1_1_0_1_0_0_1_0_0_1_1 (blockK 1 (thenK (fun s => cutV (vc Try.prog cDropR code_21_1_1_0_1_0_0_1_1 (thenK (fun s => L (St.norm [(5, 4)] [0, 1, 5, 6] [] s)) K)) (St.norm [(5, 4)] [0, 1, 5, 6] [] s)) (thenK (fun s => L (St.norm [(5, 4)] [0, 1, 5, 6] [] s)) K)))) (St.norm [(5, 4)] [0, 1, 5, 6, 7] [] s)) (blockK 1 (thenK (fun s => cutV (vc Try.prog cDropR code_21_1_1_0_1_0_0_1_1 (thenK (fun s => L (St.norm [(5, 4)] [0, 1, 5, 6] [] s)) K)) (St.norm [(5, 4)] [0, 1, 5, 6] [] s)) (thenK (fun s => L (St.norm [(5, 4)] [0, 1, 5, 6] [] s)) K))))) (St.mk 44 [(0, AVal.slice (prv l) 4 Tag.ro), (1, AVal.slice (strv ks) 1 Tag.ro), (5, AVal.slice (prv o) 4 (Tag.own 0)), (6, AVal.int IntKind.i64 (↑i : Int)), (7, AVal.bool false), (8, AVal.int IntKind.i64 (0 : Int))] [] [] (Sto.pushOwn Sto.empty (List.length (prv o))))) (K (Exit.exit 0) (St.mk 44 [(0, AVal.slice (prv l) 4 Tag.ro), (1, AVal.slice (strv ks) 1 Tag.ro), (5, AVal.slice (prv o) 4 (Tag.own 0)), (6, AVal.int IntKind.i64 (↑i : Int)), (12, AVal.bool (hold (decide ((↑i : Int) < (↑(List.length (prv l)) : Int)))))] [] [] (Sto.pushOwn Sto.empty (List.length (prv o)))))) := by kernel_rfl
noncomputable def dropRI_S (l : List Pr) (ks : List Txt) (o : List Pr) (i : Nat) : St := St.mk 44 [(0, .slice (prv l) 4 .ro), (1, .slice (strv ks) 1 .ro), (5, .slice (prv o) 4 (.own 0)), (6, .int .i64 (i : Int))] [] [] (Sto.pushOwn Sto.empty (prv o).length)
noncomputable abbrev dropRI_C : Code := code_21_1_1_0_1_0_0_1_1
theorem dropRI_r (l : List Pr) (ks : List Txt) (o : List Pr) (i : Nat) (K : Exit → St → Prop) : vc Try.prog cDropR code_21_1_1_0_1_0_0_1_1 K (St.mk 44 [(0, .slice (prv l) 4 .ro), (1, .slice (strv ks) 1 .ro), (5, .slice (prv o) 4 (.own 0)), (6, .int .i64 (i : Int))] [] [] (Sto.pushOwn Sto.empty (prv o).length)) =
  (K Exit.normal (St.mk 44 [(0, AVal.slice (prv l) 4 Tag.ro), (1, AVal.slice (strv ks) 1 Tag.ro), (5, AVal.slice (prv o) 4 (Tag.own 0)), (6, AVal.int IntKind.i64 (IntKind.wrap IntKind.i64 ((↑i : Int) + (1 : Int))))] [] [] (Sto.pushOwn Sto.empty (List.length (prv o))))) := by kernel_rfl
noncomputable def dropRM_S (l : List Pr) (ks : List Txt) (o : List Pr) (i : Nat) (g : Bool) (k : Nat) : St := St.mk 44 [(0, .slice (prv l) 4 .ro), (1, .slice (strv ks) 1 .ro), (5, .slice (prv o) 4 (.own 0)), (6, .int .i64 (i : Int)), (7, .bool g), (8, .int .i64 (k : Int))] [] [] (Sto.pushOwn Sto.empty (prv o).length)
noncomputable abbrev dropRM_C : Code := code_21_1_1_0_1_0_0_1_0_0_1_0_1_0_0
theorem dropRM_r (l : List Pr) (ks : List Txt) (o : List Pr) (i : Nat) (g : Bool) (k : Nat) (L : St → Prop) (K : Exit → St → Prop) : vc Try.prog cDropR code_21_1_1_0_1_0_0_1_0_0_1_0_1_0_0 (thenK (fun s => L (St.norm [(5, 4)] [0, 1, 5, 6, 7, 8] [] s)) K) (St.mk 44 [(0, .slice (prv l) 4 .ro), (1, .slice (strv ks) 1 .ro), (5, .slice (prv o) 4 (.own 0)), (6, .int .i64 (i : Int)), (7, .bool g), (8, .int .i64 (k : Int))] [] [] (Sto.pushOwn Sto.empty (prv o).length)) =
  (brV (hold (decide ((↑k : Int) < (↑(List.length (strv ks)) : Int)))) true (brV g false (gb (decide ((0 : Int) ≤ (↑k : Int) ∧ (↑k : Int) < (↑(List.length (strv ks)) : Int))) (gb (decide (1 ≤ List.length (elemAt (strv ks) (↑k : Int)) ∧ 0 < 1) && etaOk Sh.str (List.getD (elemAt (strv ks) (↑k : Int)) 0 AVal.undef)) (gb (decide ((0 : Int) ≤ (↑i : Int) ∧ (↑i : Int) < (↑(List.length (prv l)) : Int))) (gb (decide (1 ≤ List.length (List.drop 0 (elemAt (prv l) (↑i : Int))) ∧ 0 < 1) && etaOk Sh.str (List.getD (List.drop 0 (elemAt (prv l) (↑i : Int))) 0 AVal.undef)) (L (St.mk 44 [(0, AVal.slice (prv l) 4 Tag.ro), (1, AVal.slice (strv ks) 1 Tag.ro), (5, AVal.slice (prv o) 4 (Tag.own 0)), (6, AVal.int IntKind.i64 (↑i : Int)), (7, AVal.bool (hold (AVal.strOf (List.getD (elemAt (strv ks) (↑k : Int)) 0 AVal.undef) == AVal.strOf (List.getD (List.drop 0 (elemAt (prv l) (↑i : Int))) 0 AVal.undef)))), (8, AVal.int IntKind.i64 (IntKind.wrap IntKind.i64 ((↑k : Int) + (1 : Int))))] [] [] (Sto.pushOwn Sto.empty (List.length (prv o))))))))) (L (St.mk 44 [(0, AVal.slice (prv l) 4 Tag.ro), (1, AVal.slice (strv ks) 1 Tag.ro), (5, AVal.slice (prv o) 4 (Tag.own 0)), (6, AVal.int IntKind.i64 (↑i : Int)), (7, AVal.bool true), (8, AVal.int IntKind.i64 (IntKind.wrap IntKind.i64 ((↑k : Int) + (1 : Int))))] [] [] (Sto.pushOwn Sto.empty (List.length (prv o)))))) (K (Exit.exit 2) (St.mk 44 [(0, AVal.slice (prv l) 4 Tag.ro), (1, AVal.slice (strv ks) 1 Tag.ro), (5, AVal.slice (prv o) 4 (Tag.own 0)), (6, AVal.int IntKind.i64 (↑i : Int)), (7, AVal.bool g), (8, AVal.int IntKind.i64 (↑k : Int)), (18, AVal.bool (hold (decide ((↑k : Int) < (↑(List.length (strv ks)) : Int)))))] [] [] (Sto.pushOwn Sto.empty (List.length (prv o)))))) := by kernel_rfl
noncomputable def dropRK_S (l : List Pr) (ks : List Txt) (o : List Pr) (i : Nat) (g : Bool) : St := St.mk 44 [(0, .slice (prv l) 4 .ro), (1, .slice (strv ks) 1 .ro), (5, .slice (prv o) 4 (.own 0)), (6, .int .i64 (i : Int)), (7, .bool g)] [] [] (Sto.pushOwn Sto.empty (prv o).length)
noncomputable abbrev dropRK_C : Code := code_21_1_1_0_1_0_0_1_0_0_1_1
theorem dropRK_r (l : List Pr) (ks : List Txt) (o : List Pr) (i : Nat) (g : Bool) (K : Exit → St → Prop) : vc Try.prog cDropR code_21_1_1_0_1_0_0_1_0_0_1_1 K (St.mk 44 [(0, .slice (prv l) 4 .ro), (1, .slice (strv ks) 1 .ro), (5, .slice (prv o) 4 (.own 0)), (6, .int .i64 (i : Int)), (7, .bool g)] [] [] (Sto.pushOwn Sto.empty (prv o).length)) =
  (brV (!g) true (gb (decide ((0 : Int) ≤ (↑i : Int) ∧ (↑i : Int) < (↑(List.length (prv l)) : Int))) (gb (decide (4 ≤ List.length (elemAt (prv l) (↑i : Int)) ∧ 0 < 4) && (etaOk Sh.str (List.getD (elemAt (prv l) (↑i : Int)) 0 AVal.undef) && (etaOk (Sh.int IntKind.i64) (List.getD (elemAt (prv l) (↑i : Int)) 1 AVal.undef) && (etaOk (Sh.int IntKind.i64) (List.getD (elemAt (prv l) (↑i : Int)) 2 AVal.undef) && (etaOk Sh.str (List.getD (elemAt (prv l) (↑i : Int)) 3 AVal.undef) && true))))) (gb (decide (decide (true = true ∧ some (List.length (prv o)) = some (List.length (prv o)) ∧ (List.length (prv o) + 1) * 48 ≤ 140737488355328 ∧ List.length (prv o) + 1 ≤ 9223372036854775807) = true ∧ true = true)) (K Exit.normal (St.mk 44 [(0, AVal.slice (prv l) 4 Tag.ro), (1, AVal.slice (strv ks) 1 Tag.ro), (5, AVal.slice (prv o ++ [AVal.agg [AVal.str (AVal.strOf (List.getD (elemAt (prv l) (↑i : Int)) 0 AVal.undef)), AVal.int IntKind.i64 (AVal.intOf (List.getD (elemAt (prv l) (↑i : Int)) 1 AVal.undef)), AVal.int IntKind.i64 (AVal.intOf (List.getD (elemAt (prv l) (↑i : Int)) 2 AVal.undef)), AVal.str (AVal.strOf (List.getD (elemAt (prv l) (↑i : Int)) 3 AVal.undef))]]) 4 (Tag.own 0)), (6, AVal.int IntKind.i64 (↑i : Int)), (7, AVal.bool g), (35, AVal.bool !g)] [] [] (Sto.setOwn (Sto.pushOwn Sto.empty (List.length (prv o))) 0 (List.length (prv o) + 1))))))) (K Exit.normal (St.mk 44 [(0, AVal.slice (prv l) 4 Tag.ro), (1, AVal.slice (strv ks) 1 Tag.ro), (5, AVal.slice (prv o) 4 (Tag.own 0)), (6, AVal.int IntKind.i64 (↑i : Int)), (7, AVal.bool g), (35, AVal.bool !g)] [] [] (Sto.pushOwn Sto.empty (List.length (prv o)))))) := by kernel_rfl
noncomputable def dropRF_S (o : List Pr) : St := St.mk 44 [(5, .slice (prv o) 4 (.own 0))] [] [] (Sto.pushOwn Sto.empty (prv o).length)
noncomputable abbrev dropRF_C : Code := code_21_1_1_1
theorem dropRF_r (o : List Pr) (Q : AVal → Sto → Prop) : vc Try.prog cDropR code_21_1_1_1 (endK Try.prog Try.f21.results.toList Q) (St.mk 44 [(5, .slice (prv o) 4 (.own 0))] [] [] (Sto.pushOwn Sto.empty (prv o).length)) =
  (Q (AVal.slice (prv o) 4 (Tag.own 0)) (Sto.pushOwn Sto.empty (List.length (prv o)))) := by kernel_rfl
theorem setR_r (l ns : List Pr) (Q : AVal → Sto → Prop) : vc Try.prog cSetR code_19_ (endK Try.prog Try.f19.results.toList Q) (St.start Try.f19.ntmps [.slice (prv l) 4 .ro, .slice (prv ns) 4 .ro] (Sto.empty)) =
  (∀ (y : Bool), y = (incP (List.map prOf (prv l)) && decide (List.length (List.map prOf (prv l)) ≤ 16)) → gb (Go.Proofs.Ytbghpjamahgegaa.prsOk (prv l) 4) (brV (!hold y) true (Q (AVal.tuple [AVal.slice [] 0 Tag.nil, AVal.int IntKind.i64 (2 : Int)]) Sto.empty) (gb (decide (decide (true = true ∧ List.length (prv l) * 48 ≤ 140737488355328 ∧ List.length (prv l) ≤ 9223372036854775807) = true ∧ true = true)) (loopV (fun s => St.norm [(6, 1004)] [1, 6, 7] [] s) (vc Try.prog cSetR code_19_1_1_1_1_0_1_0_0) (blockK 0 (thenK (fun s => cutV (vc Try.prog cSetR code_19_1_1_1_1_1 (endK Try.prog (Array.toList (Go.Func.results Try.f19)) Q)) (St.norm [(6, 1004)] [6] [] s)) (endK Try.prog (Array.toList (Go.Func.results Try.f19)) Q))) (St.mk 44 [(1, AVal.slice (prv ns) 4 Tag.ro), (6, AVal.slice (prv l) 4 Tag.ro), (7, AVal.int IntKind.i64 (0 : Int))] [] [] (Sto.pushOwn Sto.empty (List.length (prv l)))))))) := by kernel_rfl
theorem setR_i (l ns : List Pr) (Q : AVal → Sto → Prop) (ho : OrcOk Try.prog cSetR) (h : ∀ (y : Bool), y = (incP (List.map prOf (prv l)) && decide (List.length (List.map prOf (prv l)) ≤ 16)) → gb (Go.Proofs.Ytbghpjamahgegaa.prsOk (prv l) 4) (brV (!hold y) true (Q (AVal.tuple [AVal.slice [] 0 Tag.nil, AVal.int IntKind.i64 (2 : Int)]) Sto.empty) (gb (decide (decide (true = true ∧ List.length (prv l) * 48 ≤ 140737488355328 ∧ List.length (prv l) ≤ 9223372036854775807) = true ∧ true = true)) (loopV (fun s => St.norm [(6, 1004)] [1, 6, 7] [] s) (vc Try.prog cSetR code_19_1_1_1_1_0_1_0_0) (blockK 0 (thenK (fun s => cutV (vc Try.prog cSetR code_19_1_1_1_1_1 (endK Try.prog (Array.toList (Go.Func.results Try.f19)) Q)) (St.norm [(6, 1004)] [6] [] s)) (endK Try.prog (Array.toList (Go.Func.results Try.f19)) Q))) (St.mk 44 [(1, AVal.slice (prv ns) 4 Tag.ro), (6, AVal.slice (prv l) 4 Tag.ro), (7, AVal.int IntKind.i64 (0 : Int))] [] [] (Sto.pushOwn Sto.empty (List.length (prv l)))))))) : ACall Try.prog 19 [.slice (prv l) 4 .ro, .slice (prv ns) 4 .ro] (Sto.empty) Q :=
  ACall.intro hmix Try.func19 (c := code_19_) (by kernel_rfl) cSetR ho (Nat.le_of_ble_eq_true (by kernel_rfl)) (by rw [setR_r]; exact h)
noncomputable def setRL_S (ns o : List Pr) (i : Nat) (σ : Sto) : St := St.mk 44 [(1, .slice (prv ns) 4 .ro), (6, .slice (prv o) 4 .ro), (7, .int .i64 (i : Int))] [] [] (σ)
noncomputable abbrev setRL_C : Code := code_19_1_1_1_1_0_1_0_0
theorem setRL_r (ns o : List Pr) (i : Nat) (σ : Sto) (L : St → Prop) (K : Exit → St → Prop) : vc Try.prog cSetR code_19_1_1_1_1_0_1_0_0 (thenK (fun s => L (St.norm [(6, 1004)] [1, 6, 7] [] s)) K) (St.mk 44 [(1, .slice (prv ns) 4 .ro), (6, .slice (prv o) 4 .ro), (7, .int .i64 (i : Int))] [] [] (σ)) =
  (brV (hold (decide ((↑i : Int) < (↑(List.length (prv ns)) : Int)))) true (gb (decide ((0 : Int) ≤ (↑i : Int) ∧ (↑i : Int) < (↑(List.length (prv ns)) : Int))) (gb (decide (1 ≤ List.length (List.drop 0 (elemAt (prv ns) (↑i : Int))) ∧ 0 < 1) && etaOk Sh.str (List.getD (List.drop 0 (elemAt (prv ns) (↑i : Int))) 0 AVal.undef)) (gb (Go.Proofs.Ytbghpjamahgegaa.Lt.lenT (AVal.strOf (List.getD (List.drop 0 (elemAt (prv ns) (↑i : Int))) 0 AVal.undef))) (brV (!hold (nameT (AVal.strOf (List.getD (List.drop 0 (elemAt (prv ns) (↑i : Int))) 0 AVal.undef)))) true (K Exit.ret (St.mk 44 [(1, AVal.slice (prv ns) 4 Tag.ro), (6, AVal.slice (prv o) 4 Tag.ro), (7, AVal.int IntKind.i64 (↑i : Int)), (17, AVal.bool (hold (decide ((↑i : Int) < (↑(List.length (prv ns)) : Int))))), (26, AVal.bool !hold (nameT (AVal.strOf (List.getD (List.drop 0 (elemAt (prv ns) (↑i : Int))) 0 AVal.undef)))), (4, AVal.slice [] 0 Tag.nil), (5, AVal.int IntKind.i64 (30 : Int))] [] [] σ)) (gb (decide ((0 : Int) ≤ (↑i : Int) ∧ (↑i : Int) < (↑(List.length (prv ns)) : Int))) (gb (decide (3 ≤ List.length (List.drop 1 (elemAt (prv ns) (↑i : Int))) ∧ 0 < 3) && (etaOk (Sh.int IntKind.i64) (List.getD (List.drop 1 (elemAt (prv ns) (↑i : Int))) 0 AVal.undef) && (etaOk (Sh.int IntKind.i64) (List.getD (List.drop 1 (elemAt (prv ns) (↑i : Int))) 1 AVal.undef) && (etaOk Sh.str (List.getD (List.drop 1 (elemAt (prv ns) (↑i : Int))) 2 AVal.undef) && true)))) (brV (!hold (okV (Vl.mk (AVal.intOf (List.getD (List.drop 1 (elemAt (prv ns) (↑i : Int))) 0 AVal.undef)) (AVal.intOf (List.getD (List.drop 1 (elemAt (prv ns) (↑i : Int))) 1 AVal.undef)) (AVal.strOf (List.getD (List.drop 1 (elemAt (prv ns) (↑i : Int))) 2 AVal.undef))))) true (K Exit.ret (St.mk 44 [(1, AVal.slice (prv ns) 4 Tag.ro), (6, AVal.slice (prv o) 4 Tag.ro), (7, AVal.int IntKind.i64 (↑i : Int)), (17, AVal.bool (hold (decide ((↑i : Int) < (↑(List.length (prv ns)) : Int))))), (26, AVal.bool !hold (nameT (AVal.strOf (List.getD (List.drop 0 (elemAt (prv ns) (↑i : Int))) 0 AVal.undef)))), (33, AVal.bool !hold (okV (Vl.mk (AVal.intOf (List.getD (List.drop 1 (elemAt (prv ns) (↑i : Int))) 0 AVal.undef)) (AVal.intOf (List.getD (List.drop 1 (elemAt (prv ns) (↑i : Int))) 1 AVal.undef)) (AVal.strOf (List.getD (List.drop 1 (elemAt (prv ns) (↑i : Int))) 2 AVal.undef))))), (4, AVal.slice [] 0 Tag.nil), (5, AVal.int IntKind.i64 (22 : Int))] [] [] σ)) (gb (decide ((0 : Int) ≤ (↑i : Int) ∧ (↑i : Int) < (↑(List.length (prv ns)) : Int))) (gb (decide (4 ≤ List.length (elemAt (prv ns) (↑i : Int)) ∧ 0 < 4) && (etaOk Sh.str (List.getD (elemAt (prv ns) (↑i : Int)) 0 AVal.undef) && (etaOk (Sh.int IntKind.i64) (List.getD (elemAt (prv ns) (↑i : Int)) 1 AVal.undef) && (etaOk (Sh.int IntKind.i64) (List.getD (elemAt (prv ns) (↑i : Int)) 2 AVal.undef) && (etaOk Sh.str (List.getD (elemAt (prv ns) (↑i : Int)) 3 AVal.undef) && true))))) (∀ (y : List Pr), y = putP (List.map prOf (prv o)) (Pr.mk (AVal.strOf (List.getD (elemAt (prv ns) (↑i : Int)) 0 AVal.undef)) (Vl.mk (AVal.intOf (List.getD (elemAt (prv ns) (↑i : Int)) 1 AVal.undef)) (AVal.intOf (List.getD (elemAt (prv ns) (↑i : Int)) 2 AVal.undef)) (AVal.strOf (List.getD (elemAt (prv ns) (↑i : Int)) 3 AVal.undef)))) → gb (Go.Proofs.Ytbghpjamahgegaa.prsOk (prv o) 4 && (hold (incP (List.map prOf (prv o))) && Go.Proofs.Ytbghpjamahgegaa.Lt.lenT (AVal.strOf (List.getD (elemAt (prv ns) (↑i : Int)) 0 AVal.undef)))) (L (St.mk 44 [(1, AVal.slice (prv ns) 4 Tag.ro), (6, AVal.slice (prv y) 4 Tag.ro), (7, AVal.int IntKind.i64 (IntKind.wrap IntKind.i64 ((↑i : Int) + (1 : Int))))] [] [] σ)))))))))))) (K (Exit.exit 0) (St.mk 44 [(1, AVal.slice (prv ns) 4 Tag.ro), (6, AVal.slice (prv o) 4 Tag.ro), (7, AVal.int IntKind.i64 (↑i : Int)), (17, AVal.bool (hold (decide ((↑i : Int) < (↑(List.length (prv ns)) : Int)))))] [] [] σ))) := by kernel_rfl
noncomputable def setRF_S (o : List Pr) (σ : Sto) : St := St.mk 44 [(6, .slice (prv o) 4 .ro)] [] [] (σ)
noncomputable abbrev setRF_C : Code := code_19_1_1_1_1_1
theorem setRF_r (o : List Pr) (σ : Sto) (Q : AVal → Sto → Prop) : vc Try.prog cSetR code_19_1_1_1_1_1 (endK Try.prog Try.f19.results.toList Q) (St.mk 44 [(6, .slice (prv o) 4 .ro)] [] [] (σ)) =
  (brV (hold (decide ((16 : Int) < (↑(List.length (prv o)) : Int)))) true (Q (AVal.tuple [AVal.slice [] 0 Tag.nil, AVal.int IntKind.i64 (32 : Int)]) σ) (Q (AVal.tuple [AVal.slice (prv o) 4 Tag.ro, AVal.int IntKind.i64 (0 : Int)]) σ)) := by kernel_rfl
theorem awake_r  (Q : AVal → Sto → Prop) : vc Try.prog cAwake code_8_ (endK Try.prog Try.f8.results.toList Q) (St.start Try.f8.ntmps [] (Sto.empty)) =
  (∀ (y : List Pr × Int), y = ([Pr.mk [(97 : UInt8)] (Vl.mk (2 : Int) (0 : Int) [(120 : UInt8)]), Pr.mk [(98 : UInt8)] (Vl.mk (1 : Int) (2 : Int) [])], (0 : Int)) → gb (Go.Proofs.Ytbghpjamahgegaa.prsOk [AVal.agg [AVal.str [(98 : UInt8)], AVal.int IntKind.i64 (1 : Int), AVal.int IntKind.i64 (1 : Int), AVal.str []]] 4 && (Go.Proofs.Ytbghpjamahgegaa.prsOk [AVal.agg [AVal.str [(97 : UInt8)], AVal.int IntKind.i64 (2 : Int), AVal.int IntKind.i64 (0 : Int), AVal.str [(120 : UInt8)]], AVal.agg [AVal.str [(98 : UInt8)], AVal.int IntKind.i64 (1 : Int), AVal.int IntKind.i64 (2 : Int), AVal.str []]] 4 && hold true)) (∀ (y_1 : Bool), y_1 = (incP (List.map prOf (prv (Prod.fst y))) && decide (List.length (List.map prOf (prv (Prod.fst y))) ≤ 16)) → ∀ (y_2 : Txt), (y_2 = if y_1 = true then bytesP (List.map prOf (prv (Prod.fst y))) else []) → gb (Go.Proofs.Ytbghpjamahgegaa.prsOk (prv (Prod.fst y)) 4) (brV (hold (Prod.snd y == (0 : Int))) true (∀ (y_3 : Bool), y_3 = decide (List.map prOf (prv (Prod.fst y)) = [Pr.mk [(97 : UInt8)] (Vl.mk (2 : Int) (0 : Int) [(120 : UInt8)]), Pr.mk [(98 : UInt8)] (Vl.mk (1 : Int) (2 : Int) [])]) → gb (Go.Proofs.Ytbghpjamahgegaa.prsOk (prv (Prod.fst y)) 4 && Go.Proofs.Ytbghpjamahgegaa.prsOk [AVal.agg [AVal.str [(97 : UInt8)], AVal.int IntKind.i64 (2 : Int), AVal.int IntKind.i64 (0 : Int), AVal.str [(120 : UInt8)]], AVal.agg [AVal.str [(98 : UInt8)], AVal.int IntKind.i64 (1 : Int), AVal.int IntKind.i64 (2 : Int), AVal.str []]] 4) (brV (hold y_3) true (brV (hold ((if y_1 = true then (0 : Int) else (2 : Int)) == (0 : Int))) true (gb (decide (List.all (bw y_2) isU8 = true)) (Q (AVal.bool (hold (List.map AL.byteOf (bw y_2) == [(2 : UInt8), (1 : UInt8), (97 : UInt8), (2 : UInt8), (120 : UInt8), (0 : UInt8), (0 : UInt8), (1 : UInt8), (98 : UInt8), (1 : UInt8), (128 : UInt8), (0 : UInt8), (0 : UInt8), (0 : UInt8), (0 : UInt8), (0 : UInt8), (0 : UInt8), (2 : UInt8)]))) Sto.empty)) (Q (AVal.bool false) Sto.empty)) (Q (AVal.bool false) Sto.empty))) (Q (AVal.bool false) Sto.empty)))) := by kernel_rfl
theorem awake_i  (Q : AVal → Sto → Prop) (ho : OrcOk Try.prog cAwake) (h : ∀ (y : List Pr × Int), y = ([Pr.mk [(97 : UInt8)] (Vl.mk (2 : Int) (0 : Int) [(120 : UInt8)]), Pr.mk [(98 : UInt8)] (Vl.mk (1 : Int) (2 : Int) [])], (0 : Int)) → gb (Go.Proofs.Ytbghpjamahgegaa.prsOk [AVal.agg [AVal.str [(98 : UInt8)], AVal.int IntKind.i64 (1 : Int), AVal.int IntKind.i64 (1 : Int), AVal.str []]] 4 && (Go.Proofs.Ytbghpjamahgegaa.prsOk [AVal.agg [AVal.str [(97 : UInt8)], AVal.int IntKind.i64 (2 : Int), AVal.int IntKind.i64 (0 : Int), AVal.str [(120 : UInt8)]], AVal.agg [AVal.str [(98 : UInt8)], AVal.int IntKind.i64 (1 : Int), AVal.int IntKind.i64 (2 : Int), AVal.str []]] 4 && hold true)) (∀ (y_1 : Bool), y_1 = (incP (List.map prOf (prv (Prod.fst y))) && decide (List.length (List.map prOf (prv (Prod.fst y))) ≤ 16)) → ∀ (y_2 : Txt), (y_2 = if y_1 = true then bytesP (List.map prOf (prv (Prod.fst y))) else []) → gb (Go.Proofs.Ytbghpjamahgegaa.prsOk (prv (Prod.fst y)) 4) (brV (hold (Prod.snd y == (0 : Int))) true (∀ (y_3 : Bool), y_3 = decide (List.map prOf (prv (Prod.fst y)) = [Pr.mk [(97 : UInt8)] (Vl.mk (2 : Int) (0 : Int) [(120 : UInt8)]), Pr.mk [(98 : UInt8)] (Vl.mk (1 : Int) (2 : Int) [])]) → gb (Go.Proofs.Ytbghpjamahgegaa.prsOk (prv (Prod.fst y)) 4 && Go.Proofs.Ytbghpjamahgegaa.prsOk [AVal.agg [AVal.str [(97 : UInt8)], AVal.int IntKind.i64 (2 : Int), AVal.int IntKind.i64 (0 : Int), AVal.str [(120 : UInt8)]], AVal.agg [AVal.str [(98 : UInt8)], AVal.int IntKind.i64 (1 : Int), AVal.int IntKind.i64 (2 : Int), AVal.str []]] 4) (brV (hold y_3) true (brV (hold ((if y_1 = true then (0 : Int) else (2 : Int)) == (0 : Int))) true (gb (decide (List.all (bw y_2) isU8 = true)) (Q (AVal.bool (hold (List.map AL.byteOf (bw y_2) == [(2 : UInt8), (1 : UInt8), (97 : UInt8), (2 : UInt8), (120 : UInt8), (0 : UInt8), (0 : UInt8), (1 : UInt8), (98 : UInt8), (1 : UInt8), (128 : UInt8), (0 : UInt8), (0 : UInt8), (0 : UInt8), (0 : UInt8), (0 : UInt8), (0 : UInt8), (2 : UInt8)]))) Sto.empty)) (Q (AVal.bool false) Sto.empty)) (Q (AVal.bool false) Sto.empty))) (Q (AVal.bool false) Sto.empty)))) : ACall Try.prog 8 [] (Sto.empty) Q :=
  ACall.intro hmix Try.func8 (c := code_8_) (by kernel_rfl) cAwake ho (Nat.le_of_ble_eq_true (by kernel_rfl)) (by rw [awake_r]; exact h)
end Go.Proofs.Ytbghpjamahgegaa.Pz
end

section
namespace Go.AL
set_option linter.unusedSimpArgs false
set_option linter.unusedVariables false
theorem Wk.iptr {xs ys : List AVal} (h : WkL xs ys) : Wk (.iptr xs) (.iptr ys) := fun γ w l v hr => by
  cases hr with
  | iptr h0 h1 hc => exact .iptr (h _ _ _ _ h0) h1 hc
theorem idxOf_at {l : List Txt} {s : Txt} {i : Nat} (hlt : i < l.length) (e : l[i] = s) (hpre : ∀ j (h : j < l.length), j < i → ¬ l[j] = s) : l.contains s = true ∧ l.idxOf s = i := by
  refine ⟨by rw [← e]; simp, ?_⟩
  unfold List.idxOf
  rw [List.findIdx_eq hlt]
  exact ⟨by simp [e], fun j hj => by simpa using hpre j (by omega) hj⟩
theorem not_contains {l : List Txt} {s : Txt} (hpre : ∀ j (h : j < l.length), ¬ l[j] = s) : l.contains s = false := by
  rw [Bool.eq_false_iff]
  intro h
  obtain ⟨j, hj, e⟩ := List.getElem_of_mem (List.contains_iff_mem.1 h)
  exact hpre j hj e
theorem dropP_take1 (l : List Pr) (ks : List Txt) (j : Nat) (h : j < l.length) : dropP (l.take (j + 1)) ks = dropP (l.take j) ks ++ (if ks.contains l[j].key then [] else [l[j]]) := by
  rw [List.take_succ_eq_append_getElem h]
  unfold dropP
  rw [List.filter_append]
  cases e : ks.contains l[j].key <;> simp at e <;> simp [e]
theorem dropP_length_le (l : List Pr) (ks : List Txt) : (dropP l ks).length ≤ l.length := List.length_filter_le _ _
theorem smallP_iff {l : List Pr} : smallP l = true ↔ l.length ≤ 40 ∧ ∀ p ∈ l, p.key.length ≤ 300 ∧ p.v.s.length ≤ 300 := by unfold smallP; rw [decide_eq_true_eq]
end Go.AL
namespace Go.Proofs.Ytbghpjamahgegaa
open Go.AL
set_option linter.unusedSimpArgs false
set_option linter.unusedVariables false
set_option maxHeartbeats 2000000
set_option maxRecDepth 20000
theorem thenN {f : St → Prop} {K : Exit → St → Prop} {st : St} (h : f st) : thenK f K .normal st := h
theorem strsOk_of {es : List AVal} {s : Nat} (h : strsOk es s = true) : okW 1 s es = true ∧ es.all strIs = true ∧ (es.map AVal.strOf).length ≤ 1000000 := by
  simp only [strsOk, Bool.and_eq_true, hold_eq, decide_eq_true_eq] at h
  exact ⟨h.1, h.2.1, by simpa using h.2.2⟩
theorem strsOk_mk {l : List Txt} (h : l.length ≤ 1000000) : strsOk (strv l) 1 = true := by
  simp only [strsOk, Bool.and_eq_true, hold_eq, decide_eq_true_eq]
  exact ⟨rfl, strv_is _, by simpa using h⟩
theorem idxS_c (l : List Txt) (s : Txt) (hl : l.length ≤ 1000000) : ACall Try.prog 57 [.slice (strv l) 1 .ro, .str s] Sto.empty fun r _ => Wk r (.int .i64 (if l.contains s then (l.idxOf s : Int) else -1)) := by
  refine idxS_i l s _ (.of_none rfl) ?_
  have hn : (strv l).length = l.length := strv_length l
  refine loopV_intro (α := Nat) (fun i => idxSL_S l s (strv l).length i) (fun i => i ≤ l.length ∧ ∀ j (h : j < l.length), j < i → ¬ l[j] = s) (fun i => l.length - i) ?_ 0 ⟨Nat.zero_le _, fun j _ h => by omega⟩
  rintro i ⟨hi, hpre⟩ L hL
  refine Eq.mpr (idxSL_r l s (strv l).length i L _) ?_
  simp only [hold_eq]
  refine brV_by (fun h => ?_) (fun h => ?_)
  · have hlt : i < l.length := by have := of_decide_eq_true h; omega
    rw [i64_succ hlt (by omega), elemAt_strv l i hlt]
    refine gb_by (dt (by omega)) (gb_by rfl (brV_by (fun h => ?_) (fun h => ?_)))
    · have hb : l[i] = s := by
        have h : (s == l[i]) = true := h
        exact (eq_of_beq h).symm
      obtain ⟨e1, e2⟩ := idxOf_at hlt hb hpre
      rw [if_pos e1, e2]; exact Wk.refl _
    · have hb : ¬ l[i] = s := by
        have h : (s == l[i]) = false := h
        intro e
        rw [e] at h
        simp at h
      refine hL (i + 1) ⟨hlt, fun j hj hji => ?_⟩ (by omega)
      rcases Nat.lt_or_ge j i with h9 | h9
      · exact hpre j hj h9
      · obtain rfl : j = i := by omega
        exact hb
  · have hge : i = l.length := by have := of_decide_eq_false h; omega
    have e := not_contains fun j hj => hpre j hj (by omega)
    rw [e, if_neg (by simp)]; exact Wk.refl _
theorem idxS_ok : EntOk Try.prog idxSE := by
  intro xs σ; simp only [idxSE]; split
  · rename_i es s t x
    intro hc
    obtain ⟨h1, h2, h3⟩ := strsOk_of hc
    exact pcall_of (v := .int .i64 _) (.cons (wk_strv t h1 h2) (.refl _)) (idxS_c _ x h3) (by simp only [noOutL, AVal.noOut, strv_noOut, Bool.and_true]) (by simp only [noTokL, AVal.noTok, strv_noTok, Bool.and_true, Tag.below]) rfl rfl
  · trivial
theorem contS_c (l : List Txt) (s : Txt) (hl : l.length ≤ 1000000) : ACall Try.prog 40 [.slice (strv l) 1 .ro, .str s] Sto.empty fun r _ => Wk r (.bool (l.contains s)) := by
  refine Pz.contS_i l s _ (.of [idxSE] rfl ⟨idxS_ok, trivial⟩) ?_
  intro y hy i hi
  simp only [map_strOf_strv] at hy
  refine gb_by (strsOk_mk hl) ?_
  have : decide (0 ≤ i) = l.contains s := by
    rw [hi, ← hy]
    cases y
    · simp
    · simp
  rw [hold_eq, this]
  exact Wk.refl _
theorem contS_ok : EntOk Try.prog containsSE := by
  intro xs σ; simp only [containsSE]; split
  · rename_i es s t x
    intro hc
    obtain ⟨h1, h2, h3⟩ := strsOk_of hc
    exact pcall_of (v := .bool _) (.cons (wk_strv t h1 h2) (.refl _)) (by rw [hold_eq]; exact contS_c _ x h3) (by simp only [noOutL, AVal.noOut, strv_noOut, Bool.and_true]) (by simp only [noTokL, AVal.noTok, strv_noTok, Bool.and_true, Tag.below]) rfl rfl
  · trivial
theorem drop1_c (key : Txt) (k n : Int) (s : Txt) (ks : List Txt) (hl : ks.length ≤ 1000000) : ACall Try.prog 39 [.agg [.str key, .int .i64 k, .int .i64 n, .str s], .iptr [.slice (strv ks) 1 .ro]] Sto.empty fun r _ => Wk r (.bool (ks.contains key)) := by
  refine Pz.drop1_i key k n s ks _ (.of [containsSE] rfl ⟨contS_ok, trivial⟩) ?_
  intro y hy
  simp only [map_strOf_strv] at hy
  subst hy
  refine gb_by (strsOk_mk hl) ?_
  rw [hold_eq]
  exact Wk.refl _
theorem drop1_ok : EntOk Try.prog drop1E := by
  intro xs σ; simp only [drop1E]; split
  · rename_i key k n s es s' t
    intro hc
    obtain ⟨h1, h2, h3⟩ := strsOk_of hc
    refine pcall_of (v := .bool _) (.cons (.refl _) (.cons (Wk.iptr ?_) (.refl _))) (by rw [hold_eq]; exact drop1_c key k n s _ h3) (by simp only [noOutL, AVal.noOut, strv_noOut, Bool.and_true]) (by simp only [noTokL, AVal.noTok, strv_noTok, Bool.and_true, Tag.below]) rfl rfl
    exact .cons (wk_strv t h1 h2) (.refl _)
  · trivial
def idxD (l : List Pr) (ks : List Txt) : Int := if l.any fun p => ks.contains p.key then (l.findIdx (fun p => ks.contains p.key) : Int) else -1
theorem indexD_c (l : List Pr) (ks : List Txt) (hl : l.length ≤ 1000000) (hk : ks.length ≤ 1000000) : ACall Try.prog 41 [.slice (prv l) 4 .ro, .func (.func 39) [] [.iptr [.slice (strv ks) 1 .ro]]] Sto.empty fun r _ => Wk r (.int .i64 (idxD l ks)) := by
  refine Pz.indexD_i l ks _ (.of [drop1E] rfl ⟨drop1_ok, trivial⟩) ?_
  have hn : (prv l).length = l.length := prv_length l
  refine loopV_intro (α := Nat) (fun i => Pz.indexDL_S l ks (prv l).length i) (fun i => i ≤ l.length ∧ ∀ j (h : j < l.length), j < i → ks.contains l[j].key = false) (fun i => l.length - i) ?_ 0 ⟨Nat.zero_le _, fun j _ h => by omega⟩
  rintro i ⟨hi, hpre⟩ L hL
  refine Eq.mpr (Pz.indexDL_r l ks (prv l).length i L _) ?_
  simp only [hold_eq, map_strOf_strv]
  refine brV_by (fun h => ?_) (fun h => ?_)
  · have hlt : i < l.length := by have := of_decide_eq_true h; omega
    rw [i64_succ hlt (by omega), elemAt_prv l i hlt]
    refine gb_by (dt (by omega)) (gb_by rfl ?_)
    intro y hy
    have hy : y = ks.contains l[i].key := hy
    refine gb_by (strsOk_mk hk) (brV_by (fun h => ?_) (fun h => ?_))
    · have hb : ks.contains l[i].key = true := by rw [← hy]; exact h
      have e : idxD l ks = i := by
        unfold idxD
        rw [if_pos (List.any_eq_true.2 ⟨l[i], List.getElem_mem hlt, hb⟩)]
        congr 1
        rw [List.findIdx_eq hlt]
        exact ⟨hb, fun j hj => hpre j (by omega) hj⟩
      rw [e]; exact Wk.refl _
    · have hb : ks.contains l[i].key = false := by rw [← hy]; exact h
      refine hL (i + 1) ⟨hlt, fun j hj hji => ?_⟩ (by omega)
      rcases Nat.lt_or_ge j i with h9 | h9
      · exact hpre j hj h9
      · obtain rfl : j = i := by omega
        exact hb
  · have hge : i = l.length := by have := of_decide_eq_false h; omega
    have e : idxD l ks = -1 := by
      unfold idxD
      rw [if_neg]
      intro hh
      obtain ⟨x, hx, hb⟩ := List.any_eq_true.1 hh
      obtain ⟨j, hj, rfl⟩ := List.getElem_of_mem hx
      rw [hpre j hj (by omega)] at hb
      cases hb
    rw [e]; exact Wk.refl _
theorem num_ok : EntOk Try.prog numE := by
  intro xs σ; simp only [numE]; split
  · rename_i key n
    intro _
    exact pcall_of (v := .agg [.str key, .int .i64 1, .int .i64 n, .str []]) (.refl _) (num_i key n _ (.of_none rfl) (Wk.refl _)) rfl rfl rfl rfl
  · trivial
theorem text_ok : EntOk Try.prog textE := by
  intro xs σ; simp only [textE]; split
  · rename_i key s
    intro _
    exact pcall_of (v := .agg [.str key, .int .i64 2, .int .i64 0, .str s]) (.refl _) (text_i key s _ (.of_none rfl) (Wk.refl _)) rfl rfl rfl rfl
  · trivial
theorem small_c (l : List Pr) : ACall Try.prog 9 [.slice (prv l) 4 .ro] Sto.empty fun r _ => Wk r (.bool (smallP l)) := by
  refine small_i l _ (.of_none rfl) ?_
  have hn : (prv l).length = l.length := prv_length l
  have no : smallP l = false → Wk (.bool false) (.bool (smallP l)) := fun h => by rw [h]; exact Wk.refl _
  simp only [hold_eq]
  refine brV_by (fun h => ?_) (fun h => ?_)
  · have h : 40 < l.length := by have := of_decide_eq_true h; omega
    exact no (decide_eq_false fun ⟨h1, _⟩ => by omega)
  have h40 : l.length ≤ 40 := by have := of_decide_eq_false h; omega
  refine loopV_intro (α := Nat) (fun i => smallL_S l i) (fun i => i ≤ l.length ∧ ∀ j (h : j < l.length), j < i → l[j].key.length ≤ 300 ∧ l[j].v.s.length ≤ 300) (fun i => l.length - i) ?_ 0 ⟨Nat.zero_le _, fun j _ h => by omega⟩
  rintro i ⟨hi, hpre⟩ L hL
  refine Eq.mpr (smallL_r l i L _) ?_
  simp only [hold_eq]
  refine brV_by (fun h => ?_) (fun h => ?_)
  · have hlt : i < l.length := by have := of_decide_eq_true h; omega
    rw [i64_succ hlt (by omega), elemAt_prv l i hlt]
    refine gb_by (dt (by omega)) (gb_by rfl (brV_by' (fun h => ?_) (fun h => ?_)))
    · have h1 : l[i].key.length ≤ 300 := by
        have h : ¬ (300 : Int) < (l[i].key.length : Int) := of_decide_eq_false h
        omega
      refine gb_by (dt (by omega)) (gb_by rfl (brV_by (fun h => ?_) (fun h => ?_)))
      · have h2 : (300 : Int) < (l[i].v.s.length : Int) := of_decide_eq_true h
        exact no (decide_eq_false fun ⟨_, h⟩ => by have := h l[i] (List.getElem_mem hlt); omega)
      · have h2 : ¬ (300 : Int) < (l[i].v.s.length : Int) := of_decide_eq_false h
        refine hL (i + 1) ⟨hlt, fun j hj hji => ?_⟩ (by omega)
        rcases Nat.lt_or_ge j i with h9 | h9
        · exact hpre j hj h9
        · obtain rfl : j = i := by omega
          exact ⟨h1, by omega⟩
    · have h2 : (300 : Int) < (l[i].key.length : Int) := of_decide_eq_true h
      exact no (decide_eq_false fun ⟨_, h⟩ => by have := h l[i] (List.getElem_mem hlt); omega)
  · have hge : i = l.length := by have := of_decide_eq_false h; omega
    have e : smallP l = true := smallP_iff.2 ⟨h40, fun p hp => by
      obtain ⟨j, hj, rfl⟩ := List.getElem_of_mem hp
      exact hpre j hj (by omega)⟩
    rw [e]; exact Wk.refl _
theorem small_ok : EntOk Try.prog smallE := by
  intro xs σ; simp only [smallE]; split
  · rename_i es s t
    intro hc
    simp only [Bool.and_eq_true] at hc
    obtain ⟨h1, h2⟩ := hc
    exact pcall_of (v := .bool _) (.cons (wk_prv t h1 h2) (.refl _)) (by rw [hold_eq]; exact small_c _) (by simp only [noOutL, AVal.noOut, prv_noOut, Bool.and_true]) (by simp only [noTokL, AVal.noTok, prv_noTok, Bool.and_true, Tag.below]) rfl rfl
  · trivial
theorem copied_c (l : List Pr) (hl : l.length ≤ 1000000) : ACall Try.prog 15 [.slice (prv l) 4 .ro] Sto.empty fun r _ => Wk r (.slice (prv l) 4 .ro) := by
  refine copied_i l _ (.of_none rfl) ?_
  have hn : (prv l).length = l.length := prv_length l
  by_cases h0 : l = []
  · subst h0
    refine gb_by (dt ⟨dt ⟨rfl, .inl rfl, by simp, by simp⟩, rfl⟩) ?_
    exact Wk.ro _ _ _
  · have : 0 < l.length := List.length_pos_iff.2 h0
    refine gb_by (dt ⟨dt ⟨rfl, .inl rfl, by omega, by omega⟩, rfl⟩) ?_
    exact Wk.ro _ _ _
theorem copied_ok : EntOk Try.prog copiedE := by
  intro xs σ; simp only [copiedE]; split
  · rename_i es s t
    intro hc
    obtain ⟨h1, h2, h3, _⟩ := prsOk_of hc
    exact pcall_of (v := .slice _ 4 .ro) (.cons (wk_prv t h1 h2) (.refl _)) (copied_c _ h3) (by simp only [noOutL, AVal.noOut, prv_noOut, Bool.and_true]) (by simp only [noTokL, AVal.noTok, prv_noTok, Bool.and_true, Tag.below]) (by simp only [AVal.noOut, prv_noOut]) (by simp only [AVal.noTok, prv_noTok, Tag.below, Bool.and_true])
  · trivial
theorem dropR_c (l : List Pr) (ks : List Txt) (hl : l.length ≤ 1000000) (hk : ks.length ≤ 1000000) : ACall Try.prog 21 [.slice (prv l) 4 .ro, .slice (strv ks) 1 .ro] Sto.empty fun r _ => Wk r (.slice (prv (dropP l ks)) 4 .ro) := by
  refine Pz.dropR_i l ks _ (.of_none rfl) ?_
  have hn : (prv l).length = l.length := prv_length l
  have hkn : (strv ks).length = ks.length := strv_length ks
  refine loopV_intro (α := Nat × List Pr) (fun x => Pz.dropRL_S l ks x.2 x.1) (fun x => x.1 ≤ l.length ∧ x.2 = dropP (l.take x.1) ks) (fun x => l.length - x.1) ?_ (0, []) ⟨Nat.zero_le _, rfl⟩
  rintro ⟨i, o⟩ ⟨hi, ho⟩ L hL
  have hi : i ≤ l.length := hi
  have ho : o = dropP (l.take i) ks := ho
  refine Eq.mpr (Pz.dropRL_r l ks o i L _) ?_
  have hol := prv_length o
  have hole : o.length ≤ i := by rw [ho]; exact Nat.le_trans (dropP_length_le _ _) (by simp; omega)
  simp only [hold_eq]
  refine brV_by (fun h => ?_) (fun h => ?_)
  · have hlt : i < l.length := by have := of_decide_eq_true h; omega
    refine toCut ?_
    refine loopV_intro (α := Nat × Bool) (fun x => Pz.dropRM_S l ks o i x.2 x.1) (fun x => x.1 ≤ ks.length ∧ x.2 = (ks.take x.1).contains l[i].key) (fun x => ks.length - x.1) ?_ (0, false) ⟨Nat.zero_le _, by simp⟩
    rintro ⟨k, g⟩ ⟨hk', hg⟩ M hM
    have hk' : k ≤ ks.length := hk'
    have hg : g = (ks.take k).contains l[i].key := hg
    refine Eq.mpr (Pz.dropRM_r l ks o i g k M _) ?_
    simp only [hold_eq]
    refine brV_by (fun h => ?_) (fun h => ?_)
    · have hkl : k < ks.length := by have := of_decide_eq_true h; omega
      have e1 : (ks.take (k + 1)).contains l[i].key = (g || ks[k] == l[i].key) := by
        rw [List.take_succ_eq_append_getElem hkl, hg, Bool.eq_iff_iff]
        simp only [List.contains_eq_mem, List.mem_append, List.mem_singleton, Bool.or_eq_true, decide_eq_true_eq, beq_iff_eq]
        exact ⟨fun h => h.imp id Eq.symm, fun h => h.imp id Eq.symm⟩
      rw [i64_succ hkl (by omega)]
      refine brV_by' (fun h => ?_) (fun h => ?_)
      · subst h
        rw [elemAt_strv ks k hkl, elemAt_prv l i hlt]
        refine gb_by (dt (by omega)) (gb_by rfl (gb_by (dt (by omega)) (gb_by rfl ?_)))
        exact hM (k + 1, ks[k] == l[i].key) ⟨hkl, by rw [e1]; simp⟩ (by show ks.length - (k + 1) < ks.length - k; omega)
      · subst h
        exact hM (k + 1, true) ⟨hkl, by rw [e1]; rfl⟩ (by show ks.length - (k + 1) < ks.length - k; omega)
    · have hge : k = ks.length := by have := of_decide_eq_false h; omega
      rw [hge, List.take_length] at hg
      have hst := dropP_take1 l ks i hlt
      rw [← ho, ← hg] at hst
      refine leaveTo (toCut (Eq.mpr (Pz.dropRK_r l ks o i g _) ?_))
      simp only [hold_eq]
      have nxt : ∀ o' : List Pr, o' = dropP (l.take (i + 1)) ks → L (Pz.dropRL_S l ks o' (i + 1)) := fun o' h => hL (i + 1, o') ⟨hlt, h⟩ (by show l.length - (i + 1) < l.length - i; omega)
      refine brV_by (fun h => ?_) (fun h => ?_)
      · have hgf : g = false := by simpa using h
        subst hgf
        rw [elemAt_prv l i hlt]
        refine gb_by (dt (by omega)) (gb_by rfl (gb_by (dt ⟨dt ⟨trivial, trivial, by omega, by omega⟩, trivial⟩) ?_))
        refine inBlock (toCut ?_)
        have e1 : prv o ++ [AVal.agg [AVal.str (AVal.strOf (List.getD [AVal.str l[i].key, AVal.int .i64 l[i].v.k, AVal.int .i64 l[i].v.n, AVal.str l[i].v.s] 0 .undef)), AVal.int .i64 (AVal.intOf (List.getD [AVal.str l[i].key, AVal.int .i64 l[i].v.k, AVal.int .i64 l[i].v.n, AVal.str l[i].v.s] 1 .undef)), AVal.int .i64 (AVal.intOf (List.getD [AVal.str l[i].key, AVal.int .i64 l[i].v.k, AVal.int .i64 l[i].v.n, AVal.str l[i].v.s] 2 .undef)), AVal.str (AVal.strOf (List.getD [AVal.str l[i].key, AVal.int .i64 l[i].v.k, AVal.int .i64 l[i].v.n, AVal.str l[i].v.s] 3 .undef))]] = prv (o ++ [l[i]]) := by rw [prv_append]; rfl
        rw [e1, setOwn_e1, show (prv o).length + 1 = (prv (o ++ [l[i]])).length by simp]
        refine Eq.mpr (Pz.dropRI_r l ks (o ++ [l[i]]) i _) ?_
        rw [i64_succ hlt (by omega)]
        exact thenN (nxt _ (by rw [hst]; rfl))
      · have hgt : g = true := by simpa using h
        subst hgt
        refine inBlock (toCut ?_)
        refine Eq.mpr (Pz.dropRI_r l ks o i _) ?_
        rw [i64_succ hlt (by omega)]
        exact thenN (nxt _ (by rw [hst]; simp))
  · have hge : i = l.length := by have := of_decide_eq_false h; omega
    rw [hge, List.take_length] at ho
    refine leaveTo (toCut (Eq.mpr (Pz.dropRF_r o _) ?_))
    rw [ho]
    exact Wk.ro _ _ _
theorem setR_c (l ns : List Pr) (hl : l.length ≤ 1000000) (hn : ns.length ≤ 900000) (hp : ∀ p ∈ l, p.fit) (hq : ∀ p ∈ ns, p.fit) : ACall Try.prog 19 [.slice (prv l) 4 .ro, .slice (prv ns) 4 .ro] Sto.empty fun r _ =>
    Wk r (.tuple [.slice (prv (setP l ns).1) 4 .ro, .int .i64 (setP l ns).2]) := by
  refine Pz.setR_i l ns _ (.of [rightRE, Lt.rightRE, V.rightRE, putRE] rfl ⟨rightR_ok, Lt.rightR_ok, V.rightR_ok, putR_ok, trivial⟩) ?_
  intro y hy
  have hy : y = rightP l := by rw [hy, map_prOf_prv]; rfl
  refine gb_by (prsOk_mk hl hp) ?_
  simp only [hold_eq]
  have err : ∀ e : Int, setP l ns = ([], e) → Wk (.tuple [.slice [] 0 .nil, .int .i64 e]) (.tuple [.slice (prv (setP l ns).1) 4 .ro, .int .i64 (setP l ns).2]) := fun e h => by
    rw [h]; exact .tuple (.cons (Wk.nil _ _ _) (.refl _))
  have hln := prv_length l
  have hnn := prv_length ns
  refine brV_by (fun h => ?_) (fun h => ?_)
  · have hr : rightP l = false := by rw [← hy]; simpa using h
    exact err 2 (by simp [setP, hr])
  have hr : rightP l = true := by rw [← hy]; simpa using h
  have hl16 : l.length ≤ 16 := by have := hr; simp [rightP] at this; exact this.2
  have hinc0 : incP l = true := by have := hr; simp [rightP] at this; exact this.1
  refine gb_by (dt ⟨dt ⟨trivial, by omega, by omega⟩, trivial⟩) ?_
  refine loopV_intro (α := Nat × List Pr) (fun x => Pz.setRL_S ns x.2 x.1 (Sto.pushOwn Sto.empty (prv l).length)) (fun x => x.1 ≤ ns.length ∧ incP x.2 = true ∧ x.2.length ≤ 16 + x.1 ∧ (∀ p ∈ x.2, p.fit) ∧ laysP l ns = laysP x.2 (ns.drop x.1)) (fun x => ns.length - x.1) ?_ (0, l) ⟨Nat.zero_le _, hinc0, hl16, hp, rfl⟩
  rintro ⟨i, o⟩ ⟨hi, hinc, hol, hfit, hlays⟩ L hL
  have hi : i ≤ ns.length := hi
  have hinc : incP o = true := hinc
  have hol : o.length ≤ 16 + i := hol
  have hfit : ∀ p ∈ o, p.fit := hfit
  have hlays : laysP l ns = laysP o (ns.drop i) := hlays
  refine Eq.mpr (Pz.setRL_r ns o i _ L _) ?_
  simp only [hold_eq, map_prOf_prv]
  refine brV_by (fun h => ?_) (fun h => ?_)
  · have hlt : i < ns.length := by have := of_decide_eq_true h; omega
    have hpf := hq _ (List.getElem_mem hlt)
    rw [List.drop_eq_getElem_cons hlt] at hlays
    rw [i64_succ hlt (by omega), elemAt_prv ns i hlt]
    refine gb_by (dt (by omega)) (gb_by rfl (gb_by (Lt.lenT_mk hpf.1) (brV_by (fun h => ?_) (fun h => ?_))))
    · have hname : nameT ns[i].key = false := by
        have h : (!nameT ns[i].key) = true := h
        simpa using h
      exact err 30 (setP_err hr (hlays.trans (laysP_name hname _ _)) (by decide))
    · have hname : nameT ns[i].key = true := by
        have h : (!nameT ns[i].key) = false := h
        simpa using h
      refine gb_by (dt (by omega)) (gb_by rfl (brV_by (fun h => ?_) (fun h => ?_)))
      · have hval : okV ns[i].v = false := by
          have h : (!okV ns[i].v) = true := h
          simpa using h
        exact err 22 (setP_err hr (hlays.trans (laysP_val hname hval _ _)) (by decide))
      · have hval : okV ns[i].v = true := by
          have h : (!okV ns[i].v) = false := h
          simpa using h
        refine gb_by (dt (by omega)) (gb_by rfl ?_)
        intro y2 hy2
        have hy2 : y2 = putP o ns[i] := hy2
        subst hy2
        refine gb_by (and_tt (prsOk_mk (by omega) hfit) (and_tt hinc (Lt.lenT_mk hpf.1))) ?_
        refine hL (i + 1, putP o ns[i]) ⟨hlt, incP_put _ (by simp [okP, hname, hval]) o hinc, ?_, ?_, ?_⟩ (by show ns.length - (i + 1) < ns.length - i; omega)
        · have := putP_length ns[i] o
          show (putP o ns[i]).length ≤ 16 + (i + 1)
          omega
        · intro x hx
          rcases putP_mem ns[i] x o hx with rfl | h
          · exact hpf
          · exact hfit x h
        · exact hlays.trans (laysP_put hname hval _ _)
  · have hge : i = ns.length := by have := of_decide_eq_false h; omega
    rw [hge, List.drop_length] at hlays
    have hlays : laysP l ns = (o, 0) := hlays
    have hon := prv_length o
    refine leaveTo (toCut (Eq.mpr (Pz.setRF_r o _ _) ?_))
    simp only [hold_eq]
    refine brV_by (fun h => ?_) (fun h => ?_)
    · have h16 : 16 < o.length := by have := of_decide_eq_true h; omega
      exact err 32 (setP_many hr hlays h16)
    · have h16 : ¬ 16 < o.length := by have := of_decide_eq_false h; omega
      rw [setP_ok hr hlays h16]
      exact Wk.refl _
theorem setR_ok : EntOk Try.prog setRE := by
  intro xs σ; simp only [setRE]; split
  · rename_i es s t fs s' t'
    intro hc
    simp only [Bool.and_eq_true, hold_eq, decide_eq_true_eq] at hc
    obtain ⟨hc, hd, hn⟩ := hc
    obtain ⟨h1, h2, h3, h4⟩ := prsOk_of hc
    obtain ⟨g1, g2, g3, g4⟩ := prsOk_of hd
    exact pcall_of (v := .tuple [.slice _ 4 .ro, .int .i64 _]) (.cons (wk_prv t h1 h2) (.cons (wk_prv t' g1 g2) (.refl _))) (setR_c _ _ h3 (by simpa using hn) h4 g4) (by simp only [noOutL, AVal.noOut, prv_noOut, Bool.and_true]) (by simp only [noTokL, AVal.noTok, prv_noTok, Bool.and_true, Tag.below]) (by simp only [noOutL, AVal.noOut, prv_noOut, Bool.and_true]) (by simp only [noTokL, AVal.noTok, prv_noTok, Tag.below, Bool.and_true])
  · trivial
theorem awake_c : ACall Try.prog 8 [] Sto.empty fun r _ => Wk r (.bool true) := by
  refine Pz.awake_i _ (.of [numE, textE, setE, bytesE, sameRE] rfl ⟨num_ok, text_ok, set_ok, bytes_ok, sameR_ok, trivial⟩) ?_
  intro y hy
  subst hy
  have fit : ∀ l : List Pr, l.length ≤ 10 → (∀ p ∈ l, p.key.length ≤ 10 ∧ p.v.s.length ≤ 10 ∧ -10 ≤ p.v.n ∧ p.v.n ≤ 10) → ∀ es, es = prv l → prsOk es 4 = true := fun l h1 h2 es he => by
    rw [he]; exact prsOk_mk (by omega) fun p hp => ⟨by have := h2 p hp; omega, by have := h2 p hp; omega, by have := h2 p hp; omega, by have := h2 p hp; omega⟩
  refine gb_by (and_tt (fit [⟨[98], ⟨1, 1, []⟩⟩] (by decide) (by decide) _ rfl) (and_tt (fit [⟨[97], ⟨2, 0, [120]⟩⟩, ⟨[98], ⟨1, 2, []⟩⟩] (by decide) (by decide) _ rfl) (by rw [hold_eq]))) ?_
  intro y1 h1
  rw [map_prOf_prv] at h1
  intro y2 h2
  rw [map_prOf_prv] at h2
  refine gb_by (fit _ (by decide) (by decide) _ rfl) ?_
  simp only [hold_eq, map_prOf_prv]
  have e1 : y1 = true := by rw [h1]; decide
  subst e1
  rw [if_pos rfl] at h2
  refine brV_by (fun _ => ?_) (fun h => by cases h)
  intro y3 h3
  have e3 : y3 = true := by rw [h3]; decide
  subst e3
  refine gb_by (and_tt (fit _ (by decide) (by decide) _ rfl) (fit [⟨[97], ⟨2, 0, [120]⟩⟩, ⟨[98], ⟨1, 2, []⟩⟩] (by decide) (by decide) _ rfl)) ?_
  refine brV_by (fun _ => ?_) (fun h => by cases h)
  refine brV_by (fun _ => ?_) (fun h => by simp at h)
  subst h2
  refine gb_by (by decide) ?_
  rw [show (List.map AL.byteOf (bw (bytesP [⟨[97], ⟨2, 0, [120]⟩⟩, ⟨[98], ⟨1, 2, []⟩⟩])) == [(2 : UInt8), 1, 97, 2, 120, 0, 0, 1, 98, 1, 128, 0, 0, 0, 0, 0, 0, 2]) = true by decide]
  exact Wk.refl _
theorem awake_ok : EntOk Try.prog awakeE := by
  intro xs σ; simp only [awakeE]; split
  · intro hc
    exact pcall_of (.refl _) (by rw [hold_eq]; exact awake_c) rfl rfl rfl rfl
  · trivial
theorem dropR_ok : EntOk Try.prog dropRE := by
  intro xs σ; simp only [dropRE]; split
  · rename_i es s t ks s' t'
    intro hc
    simp only [Bool.and_eq_true, hold_eq, decide_eq_true_eq] at hc
    obtain ⟨hc, g1, g2, g3⟩ := hc
    obtain ⟨h1, h2, h3, _⟩ := prsOk_of hc
    exact pcall_of (v := .slice _ 4 .ro) (.cons (wk_prv t h1 h2) (.cons (wk_strv t' g1 g2) (.refl _))) (dropR_c _ _ h3 (by simpa using g3)) (by simp only [noOutL, AVal.noOut, prv_noOut, strv_noOut, Bool.and_true]) (by simp only [noTokL, AVal.noTok, prv_noTok, strv_noTok, Bool.and_true, Tag.below]) (by simp only [AVal.noOut, prv_noOut]) (by simp only [AVal.noTok, prv_noTok, Tag.below, Bool.and_true])
  · trivial
end Go.Proofs.Ytbghpjamahgegaa
end

section
namespace Go.AL
set_option linter.unusedSimpArgs false
set_option linter.unusedVariables false
/-- What lies below a block never changes. -/
def Gh.low (n : Nat) : Gh := { imm := fun b _ => b < n, obj := fun _ => none, own := fun _ => .free }
theorem Rep.low_below {n : Nat} {w w' : World} {l : Bool} {a : AVal} {v : Value} (h : Rep (Gh.low n) w l a v) (hb : Go.RowKit.Below n w w') : Rep (Gh.low n) w' l a v :=
  Rep.mono ⟨fun b o hi => ⟨hi, cell?_heap (hb.block b hi)⟩, fun _ _ _ h => h, fun p => OwnStep.refl _⟩ h
theorem Rep.low_top {n : Nat} {w : World} {l : Bool} {a : AVal} {v : Value} (h : Rep (Gh.low n) w l a v) (hn : n ≤ w.heap.size) : Rep (Gh.top w) w l a v :=
  have x : Ext l (Gh.low n) w (Gh.top w) w := ⟨fun b o hi => ⟨Nat.lt_of_lt_of_le hi hn, rfl⟩, fun _ _ _ h => h, fun p => OwnStep.refl _⟩
  Rep.mono x h
theorem Rep.low_mono {n m : Nat} {w : World} {l : Bool} {a : AVal} {v : Value} (h : Rep (Gh.low n) w l a v) (hn : n ≤ m) : Rep (Gh.low m) w l a v :=
  have x : Ext l (Gh.low n) w (Gh.low m) w := ⟨fun b o hi => ⟨Nat.lt_of_lt_of_le hi hn, rfl⟩, fun _ _ _ h => h, fun p => OwnStep.refl _⟩
  Rep.mono x h
theorem repL_strs {γ : Gh} {w : World} : ∀ (l : List Txt), RepL γ w false (strv l) (l.map fun s => Value.string ⟨s.toArray⟩)
  | [] => .nil _
  | s :: l => .cons (.str _ _) (repL_strs l)
theorem repL_strs_inv {γ : Gh} {w : World} : ∀ (l : List Txt) (vs : List Value), RepL γ w false (strv l) vs → vs = l.map fun s => Value.string ⟨s.toArray⟩
  | [], vs, h => by cases h; rfl
  | s :: l, vs, h => by
    cases h with
    | cons h1 h2 => cases h1; rw [repL_strs_inv l _ h2]; rfl
theorem flat_strv (l : List Txt) : flat (strv l) = strv l := by
  induction l with
  | nil => rfl
  | cons s l ih => exact congrArg (AVal.str s :: ·) ih
/-- Texts that never change lie below the heap's end. -/
theorem Rep.strLow {γ : Gh} {w : World} {v : Value} {l : List Txt} {t : Tag} (h : Rep γ w false (.slice (strv l) 1 t) v) : Rep (Gh.low w.heap.size) w false (.slice (strv l) 1 .ro) v := by
  generalize he : strv l = es at h
  cases h with
  | @sliceRow _ _ _ _ b off cap vs h1 h2 h3 h4 h5 h6 h7 =>
    subst he
    rw [flat_strv] at h1
    have := repL_strs_inv l _ h1
    subst this
    exact .sliceRow (by rw [flat_strv]; exact repL_strs l) h2 (fun j x hj => ⟨World.block_lt_of_cell? _ _ (h3 j x hj).2, (h3 j x hj).2⟩) h4 h5 h6 trivial
  | sliceNil => exact .sliceNil trivial (.inr rfl)
/-- The row's cells. -/
theorem row_cell {w : World} {g : Nat} {l : List Pr} {junk : List Value} {T : TypeId} (h : w.heap[g]? = some (.cells (pvals l ++ junk).toArray T (0, 0))) {k : Nat} (hk : k < l.length) :
    w.cell? ⟨g, k * 4, none⟩ = some (.string ⟨l[k].key.toArray⟩) ∧ w.cell? ⟨g, k * 4 + 1, none⟩ = some (.int .i64 l[k].v.k) ∧ w.cell? ⟨g, k * 4 + 2, none⟩ = some (.int .i64 l[k].v.n) ∧ w.cell? ⟨g, k * 4 + 3, none⟩ = some (.string ⟨l[k].v.s.toArray⟩) := by
  have hR : RowR w (.slice (some ⟨g, 0, none⟩) l.length l.length) l ∨ maxLen < l.length := by
    rcases Nat.lt_or_ge maxLen l.length with hm | hm
    · exact .inr hm
    · exact .inl (.inr ⟨g, 0, l.length, rfl, Nat.le_refl _, hm, fun j x hj => by
        have hlt : j < (pvals l).length := by
          rcases Nat.lt_or_ge j (pvals l).length with h1 | h1
          · exact h1
          · rw [List.getElem?_eq_none h1] at hj; cases hj
        rw [cells_at h, Nat.zero_add, List.getElem?_toArray, List.getElem?_append_left hlt]
        exact hj⟩)
  rw [cells_at h, cells_at h, cells_at h, cells_at h]
  simp only [List.getElem?_toArray]
  clear hR h
  induction l generalizing k with
  | nil => simp at hk
  | cons p l ih =>
    cases k with
    | zero => exact ⟨rfl, rfl, rfl, rfl⟩
    | succ k =>
      have hk' : k < l.length := by simpa using hk
      have e : pvals (p :: l) ++ junk = Value.string ⟨p.key.toArray⟩ :: .int .i64 p.v.k :: .int .i64 p.v.n :: .string ⟨p.v.s.toArray⟩ :: (pvals l ++ junk) := rfl
      rw [e, show (k + 1) * 4 = k * 4 + 1 + 1 + 1 + 1 by omega]
      simp only [List.getElem?_cons_succ, List.getElem_cons_succ]
      exact ih hk'
end Go.AL
namespace Go.Proofs
open Go.RowKit Ytbghpjamahgegaa
set_option linter.unusedSimpArgs false
set_option linter.unusedVariables false
theorem heap_setCells {g : Nat} {T : TypeId} : ∀ (vs : List Value) (o : Nat) (w : World) (L : List Value), w.heap[g]? = some (.cells L.toArray T (0, 0)) → (∀ v ∈ vs, v.oneCell' = true) → (∀ v ∈ L, v.oneCell' = true) →
    ∃ L' : List Value, (w.setCells g o vs).heap[g]? = some (.cells L'.toArray T (0, 0)) ∧ L'.length = L.length ∧ (∀ j, j < o → L'[j]? = L[j]?) ∧ (∀ v ∈ L', v.oneCell' = true)
  | [], o, w, L, h, _, h2 => ⟨L, h, rfl, fun _ _ => rfl, h2⟩
  | v :: vs, o, w, L, h, h1, h2 => by
    have h' : (w.setCell ⟨g, o, none⟩ v).heap[g]? = some (.cells (L.set o v).toArray T (0, 0)) := by
      rw [heap_setCell_same _ _ _ _ _ _ h, List.setIfInBounds_toArray]
    obtain ⟨L', e1, e2, e3, e4⟩ := heap_setCells vs (o + 1) (w.setCell ⟨g, o, none⟩ v) (L.set o v) h' (fun x hx => h1 x (List.mem_cons_of_mem _ hx)) (fun x hx => by
      rcases List.mem_or_eq_of_mem_set hx with h | h
      · exact h2 x h
      · rw [h]; exact h1 v List.mem_cons_self)
    refine ⟨L', e1, by rw [e2, List.length_set], fun j hj => ?_, e4⟩
    rw [e3 j (by omega), List.getElem?_set_ne (by omega)]
theorem below_setCells4 {B g : Nat} {a : World} (hg : B ≤ g) : ∀ (vs : List Value) (o : Nat) (w : World), Go.RowKit.Below B a w → Go.RowKit.Below B a (w.setCells g o vs)
  | [], _, _, h => h
  | v :: vs, o, w, h => below_setCells4 hg vs (o + 1) _ (h.setCell hg v)
theorem run_clear4 (w : World) (t e ty : TypeId) (z : Value) (ht : Try.prog.underlying t = some (.slice e)) (hv : ∀ w, (zeroValue e).run Try.prog w = .ok z w) (hz : z.cells.size = 4) (h1 : ∀ v ∈ z.cells.toList, v.oneCell' = true) (b o n c : Nat) (hn : 0 < n)
    (hc : ∀ j, j < n * 4 → (w.cell? ⟨b, o + j, none⟩).isSome = true) (hf : ∀ j, j < n * 4 → w.frozen? ⟨b, o + j, none⟩ = false) :
    ∃ vs, (Builtin.clear_ #[t] ty #[.slice (some ⟨b, o, none⟩) n c]).run Try.prog w = .ok (.tuple #[]) (w.setCells b o vs) ∧ ∀ v ∈ vs, v.oneCell' = true := by
  have hzc := AL.zeros_eq z.cells 4 n hz (by decide)
  have hl : ((List.replicate n z.cells.toList).flatten).length = n * 4 := by simp [hz]
  have ho : ∀ v ∈ (List.replicate n z.cells.toList).flatten, v.oneCell' = true := fun v hv => by
    obtain ⟨l, hl, hv⟩ := List.mem_flatten.1 hv
    rw [List.eq_of_mem_replicate hl] at hv
    exact h1 v hv
  have hst := run_storeCells_cells (P := Try.prog) b o ((List.replicate n z.cells.toList).flatten) 0 w (by rw [hl]; simpa using hc) (by rw [hl]; simpa using hf) ho
  have hze : (Builtin.zeroCells z.cells n).toList = (List.replicate n z.cells.toList).flatten := by
    unfold Builtin.zeroCells
    rw [hz] at hzc ⊢
    exact hzc
  refine ⟨(List.replicate n z.cells.toList).flatten, ?_, ho⟩
  simp only [Nat.add_zero] at hst
  obtain ⟨m, rfl⟩ : ∃ m, n = m + 1 := ⟨n - 1, by omega⟩
  simp [Builtin.clear_, run_underlying ht, hv, hze, hst]
theorem zeroProp (w : World) : (zeroValue 37).run Try.prog w = .ok (.agg #[.string ⟨#[]⟩, .int .i64 0, .int .i64 0, .string ⟨#[]⟩]) w := by kernel_rfl
theorem underProps : Try.prog.underlying 22 = some (.slice 37) := by kernel_rfl
theorem row_set_heap {w : World} {g : Nat} {junk : List Value} {T : TypeId} {l : List AL.Pr} (p : AL.Pr) (i : Nat) (hi : i < l.length) (h2 : w.heap[g]? = some (.cells (AL.pvals l ++ junk).toArray T (0, 0))) {a0 a1 a2 a3 : Nat} (e0 : a0 = i * 4) (e1 : a1 = i * 4 + 1) (e2 : a2 = i * 4 + 2) (e3 : a3 = i * 4 + 3) :
    ((((w.setCell ⟨g, a0, none⟩ (.string ⟨p.key.toArray⟩)).setCell ⟨g, a1, none⟩ (.int .i64 p.v.k)).setCell ⟨g, a2, none⟩ (.int .i64 p.v.n)).setCell ⟨g, a3, none⟩ (.string ⟨p.v.s.toArray⟩)).heap[g]? = some (.cells (AL.pvals (l.set i p) ++ junk).toArray T (0, 0)) := by
  subst e0 e1 e2 e3
  rw [heap_setCell_same _ _ _ _ _ _ (heap_setCell_same _ _ _ _ _ _ (heap_setCell_same _ _ _ _ _ _ (heap_setCell_same _ _ _ _ _ _ h2)))]
  simp only [List.setIfInBounds_toArray, AL.pvals_set p junk l i hi]
theorem idxD_cases (l : List AL.Pr) (ks : List AL.Txt) : AL.dropP l ks = l ∧ idxD l ks = -1 ∨ ∃ i, ∃ h : i < l.length, idxD l ks = (i : Int) ∧ ks.contains l[i].key = true ∧ AL.dropP (l.take i) ks = l.take i := by
  by_cases h : (l.any fun p => ks.contains p.key) = true
  · right
    have hlt : l.findIdx (fun p => ks.contains p.key) < l.length := List.findIdx_lt_length_of_exists (List.any_eq_true.1 h)
    refine ⟨_, hlt, by unfold idxD; rw [if_pos h], List.findIdx_getElem (p := fun p : AL.Pr => ks.contains p.key) (w := hlt), ?_⟩
    unfold AL.dropP
    rw [List.filter_eq_self]
    intro x hx
    obtain ⟨j, hj, e⟩ := List.mem_take_iff_getElem.1 hx
    have := List.not_of_lt_findIdx (p := fun p : AL.Pr => ks.contains p.key) (xs := l) (i := j) (by omega)
    rw [← e]
    simpa using this
  · left
    have h : ∀ x ∈ l, ks.contains x.key = false := fun x hx => by
      rw [Bool.eq_false_iff]
      exact fun hc => h (List.any_eq_true.2 ⟨x, hx, hc⟩)
    refine ⟨?_, ?_⟩
    · unfold AL.dropP
      rw [List.filter_eq_self]
      intro x hx
      rw [h x hx]; rfl
    · unfold idxD
      rw [if_neg]
      intro hc
      obtain ⟨x, hx, hb⟩ := List.any_eq_true.1 hc
      rw [h x hx] at hb; cases hb
set_option maxHeartbeats 4000000 in
set_option maxRecDepth 1000000 in
theorem deleteF_walk (l : List AL.Pr) (ks : List AL.Txt) (hl : l.length ≤ 1000000) (hks : ks.length ≤ 1000000) {w : World} {base kb : Nat} {v kv : Value} (hbase : base ≤ w.heap.size) (hrow : AL.RowP w base v l)
    (hkb : kb < base) (hkv : w.cell? ⟨kb, 0, none⟩ = some kv) (hk1 : kv.oneCell' = true) (hk : AL.Rep (AL.Gh.low base) w false (.slice (AL.strv ks) 1 .ro) kv) :
    Calls Try.prog 38 #[v, .func (.func 39) #[] #[.pointer (some ⟨kb, 0, none⟩)]] w fun e w' => ∃ u, e = .returned u ∧ AL.RowP w' base u (AL.dropP l ks) ∧ Below base w w' := by
  have hA : ∀ w, AL.Known w := known_any
  have hF : ∀ W, Below base w W → AL.Rep (AL.Gh.low base) W false (.func (.func 39) [] [.iptr [.slice (AL.strv ks) 1 .ro]]) (.func (.func 39) #[] #[.pointer (some ⟨kb, 0, none⟩)]) := fun W hb =>
    .func (.nil _) (.cons (.iptr (.cons (hk.low_below hb) (.nil _)) (fun x hx => by cases hx with | head => exact hk1 | tail _ h => cases h) (fun j x hj => by
      match j, hj with
      | 0, hj => cases hj; exact ⟨hkb, by rw [hb.cell (p := ⟨kb, 0, none⟩) hkb]; exact hkv⟩)) (.nil _))
  have hidx := idxD_cases l ks
  go_enter Try.func38, Try.ntmps38
  go_wp2_with (go_at_call 41; refine (AL.ACall.top (indexD_c l ks hl hks) (hA _) (vs := [v, _]) (.cons hrow.rep (.cons ((hF w (Below.refl _ _)).low_top hbase) (.nil _)))).mono ?_)
  rintro e W0 ⟨u, r, γ', σ', rfl, hrep, hwk, b0⟩
  rcases hidx with ⟨hd, hi⟩ | ⟨i, hil, hi, hci, htk⟩
  · rw [hi] at hwk
    have := hwk _ _ _ _ hrep
    cases this
    clear hwk hrep
    go_wp2
    go_ret
    rw [hd]
    exact ⟨_, rfl, hrow.grow b0, b0.mono hbase⟩
  · rw [hi] at hwk
    have := hwk _ _ _ _ hrep
    cases this
    clear hwk hrep
    have hrow0 := hrow.grow b0
    have hb0 : Below base w W0 := b0.mono hbase
    rcases hrow0 with ⟨rfl, _⟩ | ⟨g, cap, junk, T, rfl, e1, e2, e3, e4, e5⟩
    · simp at hil
    have hne : ((i : Int) == -1) = false := beq_false_of_ne (by omega)
    go_wp2
    go_loopw [5, 6] (fun x y wr => ∃ (i j : Nat) (b : List AL.Pr) (junk : List Value) (T : TypeId), x = .int .i64 i ∧ y = .int .i64 j ∧ i < j ∧ j ≤ l.length ∧ (AL.dropP (l.take j) ks).length = i ∧ b.length = j - i ∧
        wr.heap[g]? = some (.cells (AL.pvals (AL.dropP (l.take j) ks ++ (b ++ l.drop j)) ++ junk).toArray T (0, 0)) ∧ l.length * 4 + junk.length = cap * 4 ∧ (∀ v ∈ junk, v.oneCell' = true) ∧ Below base w wr)
      (fun _ y _ => l.length - (intOf y).toNat)
    case atStart =>
      have hst := AL.dropP_take1 l ks i hil
      rw [if_pos hci, List.append_nil, htk] at hst
      refine ⟨i, i + 1, [l[i]], junk, T, rfl, rfl, by omega, by omega, by rw [hst, List.length_take]; omega, by simp, ?_, e3, e5, hb0⟩
      have : l.take i ++ ([l[i]] ++ l.drop (i + 1)) = l := by
        rw [List.singleton_append, ← List.drop_eq_getElem_cons hil, List.take_append_drop]
      rw [hst, this]
      exact e2
    case round =>
      obtain ⟨i', j, b, junk, T, rfl, rfl, hij, hj, hai, hbl, hg, hjunk, hone, hbw⟩ := hrel
      by_cases hlt : j < l.length
      · have hcl : (AL.dropP (l.take j) ks ++ (b ++ l.drop j)).length = l.length := by
          rw [List.length_append, List.length_append, List.length_drop]; omega
        have hcj : (AL.dropP (l.take j) ks ++ (b ++ l.drop j))[j]'(by omega) = l[j] := by
          rw [List.getElem_append_right (by omega), List.getElem_append_right (by omega), List.getElem_drop]
          congr 1
          omega
        obtain ⟨c0, c1, c2, c3⟩ := AL.row_cell hg (k := j) (by omega)
        rw [hcj] at c0 c1 c2 c3
        go_wp2_with (go_at_call 39; refine (AL.ACall.top (drop1_c l[j].key l[j].v.k l[j].v.n l[j].v.s ks hks) (hA _) (vs := [_, _]) ?ra).mono ?_)
        case ra =>
          have hb' : Below base w (wr.alloc (Obj.cells #[.string ⟨l[j].key.toArray⟩, .int .i64 l[j].v.k, .int .i64 l[j].v.n, .string ⟨l[j].v.s.toArray⟩] 37)) := hbw.alloc (Nat.le_trans hbase hbw.size) _
          have hf := (hF _ hb').low_top (Nat.le_trans hbase hb'.size)
          cases hf with
          | func h1 h2 => exact .cons (.agg (.cons (.str _ _) (.cons (.int _ _ _) (.cons (.int _ _ _) (.cons (.str _ _) (.nil _))))) (fun x hx => by
              simp only [List.mem_cons, List.not_mem_nil, or_false] at hx
              rcases hx with rfl | rfl | rfl | rfl <;> rfl)) h2
        rintro e W2 ⟨u, r, γ', σ', rfl, hrep, hwk, b2⟩
        have hx : W2.heap[wr.heap.size]? = some (.cells #[.string ⟨l[j].key.toArray⟩, .int .i64 l[j].v.k, .int .i64 l[j].v.n, .string ⟨l[j].v.s.toArray⟩] 37 (0, 0)) := by
          rw [b2.block _ (by simp only [World.size_alloc]; omega), heap_alloc_new]
        have bg : Below wr.heap.size wr W2 := ((Below.refl _ wr).alloc (Nat.le_refl _) _).trans (b2.mono (by simp only [World.size_alloc]; omega))
        have hws : base ≤ wr.heap.size := Nat.le_trans hbase hbw.size
        have bw2 : Below base w W2 := hbw.trans (bg.mono hws)
        have hg2 := hg
        have hgs : g < wr.heap.size := (Array.getElem?_eq_some_iff.1 hg).1
        rw [← bg.block _ hgs] at hg2
        have d0 := AL.cells_at hx 0
        have d1 := AL.cells_at hx 1
        have d2 := AL.cells_at hx 2
        have d3 := AL.cells_at hx 3
        simp only [List.getElem?_toArray, List.getElem?_cons_zero, List.getElem?_cons_succ] at d0 d1 d2 d3
        have hst := AL.dropP_take1 l ks j hlt
        clear b2 bg hbw c0 c1 c2 c3 hg hcj
        generalize wr.heap.size = B at *
        generalize AL.dropP (l.take j) ks = a at *
        by_cases hkeep : ks.contains l[j].key = true
        · rw [hkeep] at hwk
          have := hwk _ _ _ _ hrep
          cases this
          clear hwk hrep
          rw [if_pos hkeep, List.append_nil] at hst
          go_wp2
          go_roundw
          case rel =>
            refine ⟨i', j + 1, b ++ [l[j]], junk, T, rfl, by simp, by omega, hlt, by rw [hst]; exact hai, by rw [List.length_append, List.length_singleton]; omega, ?_, hjunk, hone, bw2⟩
            rw [hst, List.append_assoc, List.singleton_append, ← List.drop_eq_getElem_cons hlt]
            exact hg2
          case measure => simp only [intOf]; omega
        · have hkeep : ks.contains l[j].key = false := by simpa using hkeep
          rw [hkeep] at hwk
          have := hwk _ _ _ _ hrep
          cases this
          clear hwk hrep
          rw [if_neg (by rw [hkeep]; simp)] at hst
          have f0 := AL.frz_at hg2 (i' * 4)
          have f1 := AL.frz_at hg2 (i' * 4 + 1)
          have f2 := AL.frz_at hg2 (i' * 4 + 2)
          have f3 := AL.frz_at hg2 (i' * 4 + 3)
          obtain ⟨g0, g1, g2, g3⟩ := AL.row_cell hg2 (k := i') (by omega)
          have hset : ∀ x, (a ++ (b ++ l.drop j)).set i' x = (a ++ [x]) ++ ((b.drop 1 ++ [l[j]]) ++ l.drop (j + 1)) := fun x => by
            obtain ⟨b0, b', rfl⟩ : ∃ b0 b', b = b0 :: b' := by
              cases b with
              | nil => simp at hbl; omega
              | cons x y => exact ⟨x, y, rfl⟩
            rw [List.set_append_right _ _ (by omega), hai, Nat.sub_self, List.cons_append, List.set_cons_zero, List.drop_eq_getElem_cons hlt]
            simp
          go_wp2
          go_roundw
          case rel =>
            refine ⟨i' + 1, j + 1, b.drop 1 ++ [l[j]], junk, T, by simp, by simp, by omega, hlt, by rw [hst, List.length_append, List.length_singleton]; omega, by rw [List.length_append, List.length_singleton, List.length_drop]; omega, ?_, hjunk, hone, (((bw2.setCell ?_ _).setCell ?_ _).setCell ?_ _).setCell ?_ _⟩
            · rw [hst, ← hset]
              exact row_set_heap l[j] i' (by omega) hg2 rfl rfl rfl rfl
            all_goals exact e1
          case measure => simp only [intOf]; omega
      · obtain rfl : j = l.length := by omega
        rw [List.drop_length, List.append_nil] at hg
        rw [List.take_length] at hg hai
        have hvl : (AL.pvals (AL.dropP l ks ++ b) ++ junk).length = cap * 4 := by
          rw [List.length_append, AL.pvals_length, List.length_append]; omega
        obtain ⟨vs, hcl, hvs⟩ := run_clear4 wr 22 37 0 _ underProps zeroProp rfl (fun v hv => by
          simp only [Value.cells, List.mem_cons, List.not_mem_nil, or_false] at hv
          rcases hv with rfl | rfl | rfl | rfl <;> rfl) g (i' * 4) (l.length - i') (cap - i') (by omega)
          (fun j hj => by rw [AL.cells_at hg, Array.getElem?_eq_getElem (by simp only [List.size_toArray]; omega)]; rfl) (fun j hj => AL.frz_at hg _)
        obtain ⟨L', k1, k2, k3, k4⟩ := heap_setCells vs (i' * 4) wr _ hg hvs (fun v hv => by
          rcases List.mem_append.1 hv with h | h
          · exact AL.pvals_one _ v h
          · exact hone v h)
        have bw3 := below_setCells4 e1 vs (i' * 4) wr hbw
        go_wp2
        go_ret
        refine ⟨_, rfl, .inr ⟨g, cap, L'.drop (i' * 4), T, by rw [hai]; rfl, e1, ?_, ?_, e4, fun v hv => k4 v (List.mem_of_mem_drop hv)⟩, bw3⟩
        · rw [k1]
          have : L' = AL.pvals (AL.dropP l ks) ++ L'.drop (i' * 4) := by
            conv => lhs; rw [← List.take_append_drop (i' * 4) L']
            congr 1
            apply List.ext_getElem?
            intro m
            rw [List.getElem?_take]
            by_cases hm : m < i' * 4
            · rw [if_pos hm, k3 m hm, List.getElem?_append_left (by rw [AL.pvals_length, List.length_append]; omega)]
              unfold AL.pvals
              rw [List.flatMap_append, List.getElem?_append_left]
              have := AL.pvals_length (AL.dropP l ks)
              unfold AL.pvals at this
              omega
            · rw [if_neg hm, List.getElem?_eq_none (by rw [AL.pvals_length]; omega)]
          rw [← this]
        · rw [List.length_drop, k2, hvl]; omega
end Go.Proofs
end

section
namespace Go.Proofs
open Go.RowKit Ytbghpjamahgegaa
set_option linter.unusedSimpArgs false
set_option linter.unusedVariables false
set_option maxHeartbeats 4000000 in
set_option maxRecDepth 1000000 in
theorem drop_walk (l : List AL.Pr) (ks : List AL.Txt) (v1 v2 : Value) (w : World) (hl : l.length ≤ 1000000) (hks : ks.length ≤ 1000000) (h1 : AL.RowR w v1 l) (h2 : AL.Rep (AL.Gh.low w.heap.size) w false (.slice (AL.strv ks) 1 .ro) v2) :
    Calls Try.prog 17 #[v1, v2] w fun e w' => ∃ u, e = .returned u ∧ AL.RowP w' w.heap.size u (AL.dropP l ks) ∧ Below w.heap.size w w' := by
  have hA : ∀ w, AL.Known w := known_any
  have ho : v2.oneCell' = true := by
    generalize he : AL.AVal.slice (AL.strv ks) 1 .ro = x at h2
    cases h2 <;> first | rfl | cases he
  go_enter Try.func17, Try.ntmps17
  have bx : Below w.heap.size w (w.alloc (Obj.cells #[v2] 33)) := (Below.refl _ w).alloc (Nat.le_refl _) _
  have hcl := clone_k l hl (hA _) (h1.below bx).rep
  go_wp2_with (go_at_call 32; refine hcl.mono ?_)
  rintro e W1 ⟨u, rfl, hrow, b1⟩
  have hs1 : (w.alloc (Obj.cells #[v2] 33)).heap.size = w.heap.size + 1 := by simp only [World.size_alloc]
  have hkv : W1.cell? ⟨w.heap.size, 0, none⟩ = some v2 := by
    rw [b1.cell (p := ⟨w.heap.size, 0, none⟩) (by rw [hs1]; exact Nat.lt_succ_self _)]
    exact World.cell?_alloc_at _ _ _ _ rfl
  have hk1 : AL.Rep (AL.Gh.low (w.alloc (Obj.cells #[v2] 33)).heap.size) W1 false (.slice (AL.strv ks) 1 .ro) v2 := ((h2.low_below bx).low_mono (by rw [hs1]; exact Nat.le_succ _)).low_below b1
  have bw1 : Below w.heap.size w W1 := bx.trans (b1.mono (by rw [hs1]; exact Nat.le_succ _))
  have hsz : (w.alloc (Obj.cells #[v2] 33)).heap.size ≤ W1.heap.size := b1.size
  go_wp2_with (go_at_call 38; refine (deleteF_walk l ks hl hks hsz hrow (by rw [hs1]; exact Nat.lt_succ_self _) hkv ho hk1).mono ?_)
  rintro e W2 ⟨u2, rfl, hrow2, b2⟩
  go_wp2
  go_ret
  exact ⟨_, rfl, hrow2.mono (by rw [hs1]; exact Nat.le_succ _), bw1.trans (b2.mono (by rw [hs1]; exact Nat.le_succ _))⟩
end Go.Proofs
namespace Go.Proofs.Ytbghpjamahgegaa
open Go.AL
set_option linter.unusedVariables false
theorem drop_ok : EntOk Try.prog dropE := by
  intro xs σ; simp only [dropE]; split
  · rename_i es s t ks s' t'
    intro hc
    simp only [Bool.and_eq_true] at hc
    obtain ⟨hc, hd⟩ := hc
    obtain ⟨a1, a2, a3, a4⟩ := prsOk_of hc
    obtain ⟨b1, b2, b3⟩ := strsOk_of hd
    refine PCall.ofMade fun γ w vs ha hr => ?_
    obtain ⟨u1, u2, rfl, h1, h2⟩ := repL2 hr
    have h1 := (wk_prv t a1 a2 _ _ _ _ h1).rowR
    have h2 := (wk_strv t' b1 b2 _ _ _ _ h2).strLow
    refine (drop_walk (es.map prOf) (ks.map AVal.strOf) u1 u2 w a3 b3 h1 h2).mono ?_
    rintro e w' ⟨u, rfl, hrow, hb⟩
    exact ⟨_, rfl, hb, hrow.repNew fun b o h1 h2 => .inr ⟨h1, h2⟩⟩
  · trivial
end Go.Proofs.Ytbghpjamahgegaa
end

section
namespace Go.AL
set_option linter.unusedSimpArgs false
set_option linter.unusedVariables false
theorem rune_len2 : ∀ (n : Nat) (s : Txt), s.length ≤ n → (∀ r ∈ runeL s, r ≤ 591) → s.length ≤ 2 * (runeL s).length
  | 0, s, h, _ => by omega
  | n + 1, s, h, hr => by
    by_cases h0 : s = []
    · subst h0; simp
    rw [runeL_cons h0] at hr ⊢
    have h1 := hr _ List.mem_cons_self
    have hw := Lib.decodeL_width s
    have hle := Lib.decodeL_le s h0
    have hl := Lib.runeLen_decode s (by omega)
    have h2 : (Lib.decodeL s).2 ≤ 2 := by
      have : Lib.runeLen ((Lib.decodeL s).1 : Int) ≤ 2 := by
        unfold Lib.runeLen
        repeat' split
        all_goals omega
      omega
    have ih := rune_len2 n (s.drop (Lib.decodeL s).2) (by rw [List.length_drop]; omega) (fun r hm => hr r (List.mem_cons_of_mem _ hm))
    rw [List.length_drop] at ih
    rw [List.length_cons]
    omega
theorem name_len {s : Txt} (h : nameT s = true) : s.length ≤ 64 := by
  have h32 : (runeL s).length ≤ 32 ∧ ∀ r ∈ runeL s, r ≤ 591 := by
    unfold nameT at h
    generalize runeL s = l at h
    cases l with
    | nil => cases h
    | cons r l =>
      simp only [nameR, Bool.and_eq_true, decide_eq_true_eq, List.all_eq_true, Bool.or_eq_true] at h
      obtain ⟨⟨h1, h2⟩, h3⟩ := h
      have lb : ∀ x, letB x = true → x ≤ 591 := fun x hx => by simp only [letB, decide_eq_true_eq] at hx; omega
      have db : ∀ x, digB x = true → x ≤ 591 := fun x hx => by simp only [digB, decide_eq_true_eq] at hx; omega
      refine ⟨by simp; omega, fun x hx => ?_⟩
      rcases List.mem_cons.1 hx with rfl | hx
      · exact lb _ h1
      · rcases h2 x hx with h | h
        · exact lb _ h
        · exact db _ h
  have := rune_len2 s.length s (Nat.le_refl _) h32.2
  omega
theorem u8_nat {n : Nat} (h : n ≤ 255) : (UInt8.ofNat n).toNat = n := by simp; omega
theorem takesP_bytes : ∀ (l : List Pr) (pre t : Txt) (acc : List Pr), (∀ p ∈ l, p.v.fit) → incP l = true → (∀ q p, acc.getLast? = some q → l.head? = some p → cmpK q.key p.key < 0) →
    takesP (pre ++ (l.flatMap oneP ++ t)) l.length acc pre.length = (acc ++ l, pre.length + (l.flatMap oneP).length, 0)
  | [], pre, t, acc, _, _, _ => by simp [takesP]
  | p :: l, pre, t, acc, hf, hi, hh => by
    obtain ⟨h1, h2, h3⟩ := (incP_cons p l).1 hi
    have h1' : nameT p.key = true ∧ okV p.v = true := by simpa [okP] using h1
    obtain ⟨hname, hval⟩ := h1'
    have hk := name_len hname
    have hkn : (UInt8.ofNat p.key.length).toNat = p.key.length := u8_nat (by omega)
    have hb := take_bytes p.v (of_decide_eq_true hval) (hf p List.mem_cons_self) (l.flatMap oneP ++ t)
    have e1 : pre ++ ((p :: l).flatMap oneP ++ t) = pre ++ (UInt8.ofNat p.key.length :: (p.key ++ (bytesV p.v ++ (l.flatMap oneP ++ t)))) := by
      rw [List.flatMap_cons, oneP]; simp
    have eg : (pre ++ ((p :: l).flatMap oneP ++ t)).getD pre.length 0 = UInt8.ofNat p.key.length := by
      rw [e1, List.getD_eq_getElem?_getD, List.getElem?_append_right (Nat.le_refl _)]; simp
    have ed : (pre ++ ((p :: l).flatMap oneP ++ t)).drop (pre.length + 1) = p.key ++ (bytesV p.v ++ (l.flatMap oneP ++ t)) := by
      rw [e1, ← List.drop_drop, List.drop_left]; rfl
    have et : ((pre ++ ((p :: l).flatMap oneP ++ t)).drop (pre.length + 1)).take p.key.length = p.key := by rw [ed, List.take_left]
    have ed2 : (pre ++ ((p :: l).flatMap oneP ++ t)).drop (pre.length + 1 + p.key.length) = bytesV p.v ++ (l.flatMap oneP ++ t) := by
      rw [← List.drop_drop, ed, List.drop_left]
    have hlen : (pre ++ ((p :: l).flatMap oneP ++ t)).length = pre.length + 1 + p.key.length + (bytesV p.v).length + (l.flatMap oneP ++ t).length := by
      rw [e1]; simp; omega
    have hnl : ¬ (nameT p.key = false ∨ ∃ q, acc.getLast? = some q ∧ 0 ≤ cmpK q.key p.key) := by
      rintro (h | ⟨q, hq, hc⟩)
      · rw [hname] at h; cases h
      · have := hh q p hq rfl; omega
    rw [List.length_cons, takesP, eg, hkn, et, ed2, hb]
    rw [if_neg (by omega), if_neg (by omega), if_neg hnl, if_neg (by simp)]
    have ih := takesP_bytes l (pre ++ (UInt8.ofNat p.key.length :: (p.key ++ bytesV p.v))) t (acc ++ [p]) (fun q hq => hf q (List.mem_cons_of_mem _ hq)) h2 (fun q r hq hr => by
      rw [List.getLast?_append, List.getLast?_singleton] at hq
      cases hq
      exact h3 r hr)
    have e2 : pre ++ (UInt8.ofNat p.key.length :: (p.key ++ bytesV p.v)) ++ (l.flatMap oneP ++ t) = pre ++ ((p :: l).flatMap oneP ++ t) := by rw [e1]; simp
    have e3 : (pre ++ (UInt8.ofNat p.key.length :: (p.key ++ bytesV p.v))).length = pre.length + 1 + p.key.length + (bytesV p.v).length := by simp; omega
    rw [e2, e3] at ih
    simp only
    have ep : (⟨p.key, p.v⟩ : Pr) = p := rfl
    rw [ep, ih]
    refine Prod.ext (by simp) (Prod.ext ?_ rfl)
    rw [List.flatMap_cons, oneP]
    simp
    omega
theorem takeP_bytes {l : List Pr} (hr : rightP l = true) (hf : ∀ p ∈ l, p.v.fit) (t : Txt) : takeP (bytesP l ++ t) = (l, (bytesP l).length, 0) := by
  have h : incP l = true ∧ l.length ≤ 16 := by simpa [rightP] using hr
  have hn : (UInt8.ofNat l.length).toNat = l.length := u8_nat (by omega)
  have e : bytesP l ++ t = UInt8.ofNat l.length :: (l.flatMap oneP ++ t) := by simp [bytesP]
  rw [e, takeP]
  simp only [hn]
  rw [if_neg (by omega)]
  have := takesP_bytes l [UInt8.ofNat l.length] t [] hf h.1 (fun q p hq => by cases hq)
  simp only [List.singleton_append, List.nil_append, List.length_singleton] at this
  rw [this]
  refine Prod.ext rfl (Prod.ext ?_ rfl)
  simp [bytesP]
  omega
/-- None is how another's begin. -/
theorem bytesP_pre {a b : List Pr} (ha : rightP a = true) (fa : ∀ p ∈ a, p.v.fit) (hb : rightP b = true) (fb : ∀ p ∈ b, p.v.fit) {r : Txt} (h : bytesP b = bytesP a ++ r) : a = b := by
  have h1 := takeP_bytes ha fa r
  have h2 := takeP_bytes hb fb []
  rw [List.append_nil, h, h1] at h2
  exact (Prod.mk.inj h2).1
theorem bytesP_min {v w : List Pr} (hv : rightP v = true) (fv : ∀ p ∈ v, p.v.fit) (hw : rightP w = true) (fw : ∀ p ∈ w, p.v.fit) : ((bytesP v).take (min (bytesP v).length (bytesP w).length) = (bytesP w).take (min (bytesP v).length (bytesP w).length)) ↔ v = w := by
  constructor
  · intro h
    rcases Nat.le_total (bytesP v).length (bytesP w).length with hl | hl
    · rw [Nat.min_eq_left hl, List.take_length] at h
      refine bytesP_pre hv fv hw fw (r := (bytesP w).drop (bytesP v).length) ?_
      conv => rhs; rw [h]
      have : ((bytesP w).take (bytesP v).length).length = (bytesP v).length := by rw [← h]
      rw [this]
      exact (List.take_append_drop _ _).symm
    · rw [Nat.min_eq_right hl, List.take_length] at h
      refine (bytesP_pre hw fw hv fv (r := (bytesP v).drop (bytesP w).length) ?_).symm
      conv => rhs; rw [← h]
      have : ((bytesP v).take (bytesP w).length).length = (bytesP w).length := by rw [h]
      rw [this]
      exact (List.take_append_drop _ _).symm
  · intro h; rw [h]
theorem fits_pr {a : AVal} (h : Fits (.agg [.str, .int .i64, .int .i64, .str]) a) : ∃ p : Pr, a = p.a ∧ p.v.fit ∧ p.key.length ≤ 140737488351232 ∧ p.v.s.length ≤ 140737488351232 := by
  obtain ⟨cs, rfl, a1, t1, rfl, h1, a2, t2, rfl, h2, a3, t3, rfl, h3, a4, t4, rfl, h4, rfl⟩ := h
  obtain ⟨key, rfl, hk⟩ := h1
  obtain ⟨k, rfl, _, _⟩ := h2
  obtain ⟨n, rfl, n1, n2⟩ := h3
  obtain ⟨s, rfl, hs⟩ := h4
  exact ⟨⟨key, ⟨k, n, s⟩⟩, rfl, ⟨n1, n2⟩, hk, hs⟩
theorem fits_prv {b : Nat} {a : AVal} (h : Fits (.slice (.agg [.str, .int .i64, .int .i64, .str]) 4 b) a) : ∃ l : List Pr, a = .slice (prv l) 4 .ro ∧ l.length * b ≤ 140737488351232 ∧ ∀ p ∈ l, p.v.fit := by
  obtain ⟨es, rfl, h1, h2⟩ := h
  obtain ⟨ls, rfl, hx⟩ := map_of (f := Pr.a) (P := fun p => p.v.fit) fun e he => by
    obtain ⟨p, e, h, _⟩ := fits_pr (h2 e he)
    exact ⟨p, e, h⟩
  exact ⟨ls, rfl, by simpa using h1, hx⟩
end Go.AL
end

section
namespace Go.AL
set_option linter.unusedSimpArgs false
set_option linter.unusedVariables false
theorem runes_inj : ∀ (n : Nat) (a b : Txt), a.length ≤ n → (∀ r ∈ runeL a, r ≤ 591) → runeL a = runeL b → a = b
  | 0, a, b, h, hr, e => by
    have h0 : a = [] := List.eq_nil_of_length_eq_zero (by omega)
    subst h0
    by_cases hb : b = []
    · exact hb.symm
    · rw [runeL_nil, runeL_cons hb] at e; cases e
  | n + 1, a, b, h, hr, e => by
    by_cases h0 : a = []
    · subst h0
      by_cases hb : b = []
      · exact hb.symm
      · rw [runeL_nil, runeL_cons hb] at e; cases e
    by_cases hb : b = []
    · subst hb
      rw [runeL_nil, runeL_cons h0] at e; cases e
    rw [runeL_cons h0] at hr e
    rw [runeL_cons hb] at e
    obtain ⟨e1, e2⟩ := List.cons.inj e
    have h1 := hr _ List.mem_cons_self
    have e1' : (Lib.decodeL a).1 = (Lib.decodeL b).1 := by omega
    have la := Lib.runeLen_decode a (by omega)
    have lb := Lib.runeLen_decode b (by omega)
    have ew : (Lib.decodeL a).2 = (Lib.decodeL b).2 := by rw [e1'] at la; omega
    have wa := Lib.decodeL_width a
    have ta := Lib.encode_decode a h0 (by omega)
    have tb := Lib.encode_decode b hb (by omega)
    have hd := runes_inj n (a.drop (Lib.decodeL a).2) (b.drop (Lib.decodeL b).2) (by rw [List.length_drop]; omega) (fun r hm => hr r (List.mem_cons_of_mem _ hm)) e2
    rw [← List.take_append_drop (Lib.decodeL a).2 a, ← List.take_append_drop (Lib.decodeL b).2 b, hd, ← ta, ← tb, e1']
theorem name_runes {s : Txt} (h : nameT s = true) : ∀ r ∈ runeL s, r ≤ 591 := by
  unfold nameT at h
  generalize runeL s = l at h
  cases l with
  | nil => cases h
  | cons r l =>
    simp only [nameR, Bool.and_eq_true, decide_eq_true_eq, List.all_eq_true, Bool.or_eq_true] at h
    obtain ⟨⟨h1, h2⟩, h3⟩ := h
    have lb : ∀ x, letB x = true → x ≤ 591 := fun x hx => by simp only [letB, decide_eq_true_eq] at hx; omega
    have db : ∀ x, digB x = true → x ≤ 591 := fun x hx => by simp only [digB, decide_eq_true_eq] at hx; omega
    intro x hx
    rcases List.mem_cons.1 hx with rfl | hx
    · exact lb _ h1
    · rcases h2 x hx with h | h
      · exact lb _ h
      · exact db _ h
theorem cmpK_eq {a b : Txt} (h : nameT a = true) (e : cmpK a b = 0) : a = b := runes_inj _ a b (Nat.le_refl _) (name_runes h) (cmpR_eq e)
theorem okP_name {p : Pr} (h : okP p = true) : nameT p.key = true := by simp [okP] at h; exact h.1
theorem okP_val {p : Pr} (h : okP p = true) : okV p.v = true := by simp [okP] at h; exact h.2
theorem getP_cons (p : Pr) (l : List Pr) (key : Txt) : getP (p :: l) key = if p.key = key then some p else getP l key := by
  unfold getP
  rw [List.find?_cons]
  by_cases h : p.key = key
  · rw [if_pos h, h, beq_self_eq_true]
  · rw [if_neg h, beq_false_of_ne h]
theorem getP_nil (key : Txt) : getP [] key = none := rfl
theorem getP_put (p : Pr) (hp : okP p = true) (key : Txt) : ∀ l, incP l = true → getP (putP l p) key = if p.key = key then some p else getP l key
  | [], _ => by show getP [p] key = _; rw [getP_cons]
  | x :: l, h => by
    obtain ⟨h1, h2, h3⟩ := (incP_cons x l).1 h
    simp only [putP]
    split
    · rename_i hc
      have hne : x.key ≠ p.key := fun e => by rw [e, cmpK_self] at hc; omega
      rw [getP_cons, getP_put p hp key l h2, getP_cons]
      by_cases hx : x.key = key
      · rw [if_pos hx, if_pos hx, if_neg (fun e => hne (hx.trans e.symm))]
      · rw [if_neg hx, if_neg hx]
    · split
      · rename_i h0
        have e := cmpK_eq (okP_name h1) h0
        rw [getP_cons, getP_cons, e]
        by_cases hx : p.key = key
        · rw [if_pos hx, if_pos hx]
        · rw [if_neg hx, if_neg hx, if_neg hx]
      · rw [getP_cons]
/-- What a name has behind new properties. -/
def updP (o : Option Pr) (l : List Pr) (key : Txt) : Option Pr := l.foldl (fun o p => if p.key = key then some p else o) o
theorem updP_cons (o : Option Pr) (p : Pr) (l : List Pr) (key : Txt) : updP o (p :: l) key = updP (if p.key = key then some p else o) l key := rfl
theorem updP_append (o : Option Pr) (a b : List Pr) (key : Txt) : updP o (a ++ b) key = updP (updP o a key) b key := List.foldl_append
theorem laysP_ok : ∀ (l acc : List Pr), (laysP acc l).2 = 0 ↔ ∀ p ∈ l, okP p = true
  | [], acc => by simp [laysP]
  | p :: l, acc => by
    cases hn : nameT p.key with
    | false =>
      rw [laysP_name hn]
      constructor
      · intro h; cases h
      · intro h; have := okP_name (h p List.mem_cons_self); rw [hn] at this; cases this
    | true =>
      cases hv : okV p.v with
      | false =>
        rw [laysP_val hn hv]
        constructor
        · intro h; cases h
        · intro h; have := okP_val (h p List.mem_cons_self); rw [hv] at this; cases this
      | true =>
        rw [laysP_put hn hv, laysP_ok l]
        constructor
        · intro h q hq
          rcases List.mem_cons.1 hq with rfl | hq
          · simp [okP, hn, hv]
          · exact h q hq
        · exact fun h q hq => h q (List.mem_cons_of_mem _ hq)
theorem laysP_step {p : Pr} (h : okP p = true) (acc l : List Pr) : laysP acc (p :: l) = laysP (putP acc p) l := laysP_put (okP_name h) (okP_val h) acc l
theorem laysP_inc : ∀ (l acc : List Pr), (∀ p ∈ l, okP p = true) → incP acc = true → incP (laysP acc l).1 = true
  | [], acc, _, h => h
  | p :: l, acc, hl, h => by
    rw [laysP_step (hl p List.mem_cons_self)]
    exact laysP_inc l _ (fun q hq => hl q (List.mem_cons_of_mem _ hq)) (incP_put p (hl p List.mem_cons_self) acc h)
theorem laysP_get (key : Txt) : ∀ (l acc : List Pr), (∀ p ∈ l, okP p = true) → incP acc = true → getP (laysP acc l).1 key = updP (getP acc key) l key
  | [], acc, _, h => rfl
  | p :: l, acc, hl, h => by
    rw [laysP_step (hl p List.mem_cons_self), laysP_get key l _ (fun q hq => hl q (List.mem_cons_of_mem _ hq)) (incP_put p (hl p List.mem_cons_self) acc h), getP_put p (hl p List.mem_cons_self) key acc h]
    rfl
theorem laysP_append : ∀ (a b acc : List Pr), (∀ p ∈ a, okP p = true) → laysP acc (a ++ b) = laysP (laysP acc a).1 b
  | [], b, acc, _ => rfl
  | p :: a, b, acc, h => by
    rw [List.cons_append, laysP_step (h p List.mem_cons_self), laysP_step (h p List.mem_cons_self)]
    exact laysP_append a b _ fun q hq => h q (List.mem_cons_of_mem _ hq)
theorem laysP_mem (x : Pr) : ∀ (l acc : List Pr), x ∈ (laysP acc l).1 → x ∈ acc ∨ x ∈ l
  | [], acc, h => .inl h
  | p :: l, acc, h => by
    by_cases hp : okP p = true
    · rw [laysP_step hp] at h
      rcases laysP_mem x l _ h with h | h
      · rcases putP_mem p x acc h with rfl | h
        · exact .inr List.mem_cons_self
        · exact .inl h
      · exact .inr (List.mem_cons_of_mem _ h)
    · cases hn : nameT p.key with
      | false => rw [laysP_name hn] at h; cases h
      | true =>
        cases hv : okV p.v with
        | false => rw [laysP_val hn hv] at h; cases h
        | true => exact (hp (by simp [okP, hn, hv])).elim
theorem rightP_iff {l : List Pr} : rightP l = true ↔ incP l = true ∧ l.length ≤ 16 := by simp [rightP]
/-- What Set says, where it does not refuse. -/
theorem setP_of {l ns : List Pr} (h : (setP l ns).2 = 0) : rightP l = true ∧ (∀ p ∈ ns, okP p = true) ∧ (setP l ns).1 = (laysP l ns).1 ∧ (laysP l ns).1.length ≤ 16 := by
  unfold setP at h ⊢
  by_cases h1 : rightP l = false
  · rw [if_pos h1] at h; cases h
  rw [if_neg h1] at h ⊢
  by_cases h2 : (laysP l ns).2 ≠ 0
  · rw [if_pos h2] at h; exact (h2 h).elim
  rw [if_neg h2] at h ⊢
  by_cases h3 : 16 < (laysP l ns).1.length
  · rw [if_pos h3] at h; cases h
  rw [if_neg h3]
  exact ⟨by simpa using h1, (laysP_ok ns l).1 (by simpa using h2), rfl, by omega⟩
theorem setP_mk {l ns : List Pr} (h1 : rightP l = true) (h2 : ∀ p ∈ ns, okP p = true) (h3 : (laysP l ns).1.length ≤ 16) : setP l ns = ((laysP l ns).1, 0) := by
  unfold setP
  rw [if_neg (by rw [h1]; simp), if_neg (by simpa using (laysP_ok ns l).2 h2), if_neg (by omega)]
theorem setP_right {l ns : List Pr} (h : (setP l ns).2 = 0) : rightP (setP l ns).1 = true := by
  obtain ⟨h1, h2, h3, h4⟩ := setP_of h
  rw [h3]
  exact rightP_iff.2 ⟨laysP_inc ns l h2 (rightP_iff.1 h1).1, h4⟩
theorem setP_le (l ns : List Pr) : (setP l ns).1.length ≤ 16 := by
  by_cases h : (setP l ns).2 = 0
  · exact (rightP_iff.1 (setP_right h)).2
  · unfold setP at h ⊢
    repeat' split
    all_goals first | exact Nat.zero_le _ | (show (laysP l ns).1.length ≤ 16; omega)
theorem setP_mem {l ns : List Pr} {x : Pr} (h : x ∈ (setP l ns).1) : x ∈ l ∨ x ∈ ns := by
  unfold setP at h
  repeat' split at h
  · cases h
  · cases h
  · cases h
  · exact laysP_mem x ns l h
theorem dropP_get (l : List Pr) (key : Txt) : getP (dropP l [key]) key = none := by
  unfold getP dropP
  rw [List.find?_eq_none]
  intro p hp
  have := (List.mem_filter.1 hp).2
  simp at this
  simpa using this
/-- In order: pairwise. -/
theorem incP_pw : ∀ l : List Pr, incP l = true ↔ (∀ p ∈ l, okP p = true) ∧ l.Pairwise (fun p q => cmpK p.key q.key < 0)
  | [] => by simp [incP]
  | p :: l => by
    rw [incP_cons, incP_pw l, List.pairwise_cons]
    constructor
    · rintro ⟨h1, ⟨h2, h3⟩, h4⟩
      refine ⟨fun q hq => ?_, fun q hq => ?_, h3⟩
      · rcases List.mem_cons.1 hq with rfl | hq
        · exact h1
        · exact h2 q hq
      · cases l with
        | nil => cases hq
        | cons x l =>
          have hx := h4 x rfl
          rcases List.mem_cons.1 hq with rfl | hq
          · exact hx
          · exact cmpK_trans hx ((List.pairwise_cons.1 h3).1 q hq)
    · rintro ⟨h1, h2, h3⟩
      exact ⟨h1 p List.mem_cons_self, ⟨fun q hq => h1 q (List.mem_cons_of_mem _ hq), h3⟩, fun q hq => h2 q (List.mem_of_head? hq)⟩
theorem dropP_inc {l : List Pr} (ks : List Txt) (h : incP l = true) : incP (dropP l ks) = true := by
  obtain ⟨h1, h2⟩ := (incP_pw l).1 h
  exact (incP_pw _).2 ⟨fun p hp => h1 p (List.mem_filter.1 hp).1, h2.sublist List.filter_sublist⟩
theorem dropP_right {l : List Pr} (ks : List Txt) (h : rightP l = true) : rightP (dropP l ks) = true := by
  obtain ⟨h1, h2⟩ := rightP_iff.1 h
  exact rightP_iff.2 ⟨dropP_inc ks h1, Nat.le_trans (dropP_length_le _ _) h2⟩
theorem dropP_one : ∀ (l : List Pr) (key : Txt), incP l = true → (dropP l [key]).length + (if (getP l key).isSome then 1 else 0) = l.length
  | [], key, _ => rfl
  | p :: l, key, h => by
    obtain ⟨h1, h2, h3⟩ := (incP_cons p l).1 h
    have ih := dropP_one l key h2
    rw [getP_cons]
    by_cases hk : p.key = key
    · have hn : ∀ q ∈ l, q.key ≠ key := fun q hq e => by
        have := incP_head h q hq
        rw [hk, e, cmpK_self] at this
        omega
      have hd : dropP l [key] = l := by
        unfold dropP
        rw [List.filter_eq_self]
        intro q hq
        simpa using hn q hq
      have hd2 : dropP (p :: l) [key] = dropP l [key] := by
        unfold dropP
        rw [List.filter_cons_of_neg (by simp [hk])]
      rw [if_pos hk, hd2, hd]
      simp
    · have hd2 : dropP (p :: l) [key] = p :: dropP l [key] := by
        unfold dropP
        rw [List.filter_cons_of_pos (by simpa using hk)]
      rw [if_neg hk, hd2, List.length_cons, List.length_cons]
      omega
end Go.AL
end

section
namespace Go.Proofs.Ytbghpjamahgegaa
open Go.AL
set_option linter.unusedSimpArgs false
set_option linter.unusedVariables false
set_option maxRecDepth 20000
set_option maxHeartbeats 2000000
theorem prsAny (l : List Pr) : (prv l).all isPr = true := prv_is _
theorem prsSmall {l : List Pr} (h : smallP l = true) (hf : ∀ p ∈ l, p.v.fit) : l.length ≤ 40 ∧ ∀ p ∈ l, p.fit := by
  obtain ⟨h1, h2⟩ := smallP_iff.1 h
  exact ⟨h1, fun p hp => ⟨by have := h2 p hp; omega, by have := h2 p hp; omega, hf p hp⟩⟩
theorem gets_law (xs : List AVal) (h : FitsL [.slice (.agg [.str, .int .i64, .int .i64, .str]) 4 48, .slice (.agg [.str, .int .i64, .int .i64, .str]) 4 48, .str] xs) :
    ACall Try.prog 5 xs Sto.empty fun v _ => v = .bool true := by
  obtain ⟨_, _, rfl, f1, _, _, rfl, f2, _, _, rfl, f3, rfl⟩ := h
  obtain ⟨a, rfl, _, fa⟩ := fits_prv f1
  obtain ⟨b, rfl, _, fb⟩ := fits_prv f2
  obtain ⟨key, rfl, _⟩ := f3
  refine Pg5.gets_i a b key _ (.of [awakeE, smallE, setE, getE, dropE] rfl ⟨awake_ok, small_ok, set_ok, get_ok, drop_ok, trivial⟩) ?_
  simp only [hold_eq, map_prOf_prv]
  refine brV_by' (fun _ => ?_) (fun h => by cases h)
  refine gb_by (prsAny _) (brV_by' (fun h => ?_) (fun _ => trivial))
  have sa := prsSmall (by simpa using h) fa
  refine gb_by (prsAny _) (brV_by (fun _ => trivial) (fun h => ?_))
  have sb := prsSmall (by simpa using h) fb
  have nb := prv_length b
  have ca := prsOk_mk (l := a) (by omega) sa.2
  have cb := prsOk_mk (l := b) (by omega) sb.2
  intro y hy
  refine gb_by (and_tt ca (and_tt cb (dt (by omega)))) (brV_by (fun _ => trivial) (fun h => ?_))
  have he : y.2 = 0 := by simpa using h
  rw [hy] at he
  obtain ⟨r1, r2, r3, r4⟩ := setP_of he
  have rx := setP_right he
  rw [← hy] at rx r3
  have hinc := (rightP_iff.1 rx).1
  have hx16 := (rightP_iff.1 rx).2
  have cx : ∀ p ∈ y.1, p.fit := fun p hp => by
    rw [hy] at hp
    rcases setP_mem hp with h | h
    · exact sa.2 p h
    · exact sb.2 p h
  have hget : getP y.1 key = updP (getP a key) b key := by rw [r3]; exact laysP_get key b a r2 (rightP_iff.1 r1).1
  intro y1 h1 y2 h2
  refine gb_by (prsOk_mk (by omega) cx) ?_
  intro y3 h3 y4 h4
  refine gb_by ca ?_
  clear hy he
  obtain ⟨x, e⟩ := y
  simp only at *
  refine loopV_intro (α := Nat × Vl × Bool) (fun s => Pg5.getsL_S b x key y2 s.2.1 y1.isSome s.2.2 s.1) (fun s => s.1 ≤ b.length ∧ s.2.1 = (updP y3 (b.take s.1) key).elim .zero Pr.v ∧ s.2.2 = (updP y3 (b.take s.1) key).isSome) (fun s => b.length - s.1) ?_ (0, y4, y3.isSome) ⟨Nat.zero_le _, h4, rfl⟩
  rintro ⟨i, w, is⟩ ⟨hi, hw, his⟩ L hL
  simp only at hi hw his
  refine Eq.mpr (Pg5.getsL_r b x key y2 w y1.isSome is i L _) ?_
  simp only [hold_eq]
  refine brV_by (fun h => ?_) (fun h => ?_)
  · have hlt : i < b.length := by have := of_decide_eq_true h; omega
    have hup : updP y3 (b.take (i + 1)) key = if b[i].key = key then some b[i] else updP y3 (b.take i) key := by
      rw [List.take_succ_eq_append_getElem hlt, updP_append]; rfl
    rw [i64_succ hlt (by omega), elemAt_prv b i hlt]
    refine gb_by (dt (by omega)) (gb_by rfl (brV_by (fun h => ?_) (fun h => ?_)))
    · have hk : b[i].key = key := by
        have h : (b[i].key == key) = true := h
        simpa using h
      rw [if_pos hk] at hup
      refine gb_by (dt (by omega)) (gb_by rfl ?_)
      exact hL (i + 1, b[i].v, true) ⟨hlt, by simp only [hup]; rfl, by simp only [hup]; rfl⟩ (by simp only; omega)
    · have hk : ¬ b[i].key = key := by
        have h : (b[i].key == key) = false := h
        simpa using h
      rw [if_neg hk] at hup
      exact hL (i + 1, w, is) ⟨hlt, by simp only [hup]; exact hw, by simp only [hup]; exact his⟩ (by simp only; omega)
  · have hge : i = b.length := by have := of_decide_eq_false h; omega
    rw [hge, List.take_length, h3, ← hget, ← h1] at hw his
    refine leaveTo (toCut (Eq.mpr (Pg5.getsF_r x key y2 w y1.isSome is _) ?_))
    simp only [hold_eq, map_prOf_prv]
    have hv : y2 = w := by rw [hw]; exact h2
    subst hv his
    have hstr : strsOk [AVal.str key] 1 = true := strsOk_mk (l := [key]) (by simp)
    have hone := dropP_one x key hinc
    have hxn := prv_length x
    intro d hd
    refine gb_by (and_tt (prsOk_mk (by omega) cx) hstr) ?_
    intro z1 hz1 z2 hz2
    have hz : z1 = none := by rw [hz1, hd]; exact dropP_get x key
    have hdl := dropP_length_le x [key]
    have hdn := prv_length d
    rw [← hd] at hdl hone
    rw [← h1] at hone
    refine gb_by (prsOk_mk (by omega) fun p hp => cx p (by rw [hd] at hp; exact (List.mem_filter.1 hp).1)) ?_
    refine brV_by (fun hs => ?_) (fun hs => ?_)
    · rw [hs] at hone
      simp only [if_true] at hone
      refine brV_by (fun _ => ?_) (fun h => by simp at h)
      refine brV_by (fun _ => ?_) (fun h => by simp at h)
      refine brV_by (fun _ => ?_) (fun h => by rw [hz] at h; simp at h)
      intro d2 hd2
      obtain rfl : d2 = d := by rw [hd2, hd]
      refine gb_by (and_tt (prsOk_mk (by omega) cx) hstr) ?_
      have : IntKind.i64.wrap (((prv x).length : Int) - 1) = ((prv d2).length : Int) := by rw [wrap_i64 (by omega) (by omega)]; omega
      rw [this, beq_self_eq_true]
    · rw [hs] at hone
      refine brV_by (fun _ => ?_) (fun h => by simp at h)
      refine brV_by (fun _ => ?_) (fun h => by simp at h)
      refine brV_by (fun _ => ?_) (fun h => by rw [hz] at h; simp at h)
      intro d2 hd2
      obtain rfl : d2 = d := by rw [hd2, hd]
      refine gb_by (and_tt (prsOk_mk (by omega) cx) hstr) ?_
      have : ((prv d2).length : Int) = ((prv x).length : Int) := by simp only [if_neg (show ¬ (false = true) by decide)] at hone; omega
      rw [this, beq_self_eq_true]
end Go.Proofs.Ytbghpjamahgegaa
end

section
namespace Go.AL
set_option linter.unusedSimpArgs false
set_option linter.unusedVariables false
theorem getP_mem {l : List Pr} {key : Txt} {p : Pr} (h : getP l key = some p) : p ∈ l ∧ p.key = key := by
  refine ⟨List.mem_of_find?_eq_some h, ?_⟩
  have := List.find?_some h
  simpa using this
theorem getP_none {l : List Pr} {key : Txt} (h : getP l key = none) : ∀ p ∈ l, p.key ≠ key := by
  intro p hp
  have := List.find?_eq_none.1 h p hp
  simpa using this
theorem getP_some {l : List Pr} {p : Pr} (h : p ∈ l) : ∃ q, getP l p.key = some q := by
  cases e : getP l p.key with
  | none => exact (getP_none e p h rfl).elim
  | some q => exact ⟨q, rfl⟩
/-- Lists in order with the same values are the same. -/
theorem incP_ext : ∀ a b : List Pr, incP a = true → incP b = true → (∀ key, getP a key = getP b key) → a = b
  | [], [], _, _, _ => rfl
  | [], q :: b, _, _, h => by
    have := h q.key
    rw [getP_nil, getP_cons, if_pos rfl] at this
    cases this
  | p :: a, [], _, _, h => by
    have := h p.key
    rw [getP_nil, getP_cons, if_pos rfl] at this
    cases this
  | p :: a, q :: b, ha, hb, h => by
    have hp := h p.key
    have hq := h q.key
    rw [getP_cons, if_pos rfl] at hp
    rw [getP_cons (p := q), if_pos rfl] at hq
    have e : p = q := by
      rw [getP_cons] at hp hq
      by_cases e : q.key = p.key
      · rw [if_pos e] at hp; cases hp; rfl
      · rw [if_neg e] at hp
        rw [if_neg fun e' => e e'.symm] at hq
        have h1 := incP_head hb p (getP_mem hp.symm).1
        have h2 := incP_head ha q (getP_mem hq).1
        have := cmpK_swap p.key q.key
        omega
    subst e
    have ta := incP_tail ha
    have tb := incP_tail hb
    rw [incP_ext a b ta tb fun key => ?_]
    by_cases e : p.key = key
    · have n1 : getP a key = none := by
        cases g : getP a key with
        | none => rfl
        | some x =>
          obtain ⟨h1, h2⟩ := getP_mem g
          have := incP_head ha x h1
          rw [h2, e, cmpK_self] at this; omega
      have n2 : getP b key = none := by
        cases g : getP b key with
        | none => rfl
        | some x =>
          obtain ⟨h1, h2⟩ := getP_mem g
          have := incP_head hb x h1
          rw [h2, e, cmpK_self] at this; omega
      rw [n1, n2]
    · have := h key
      rw [getP_cons, getP_cons, if_neg e, if_neg e] at this
      exact this
theorem dropP_cons (p : Pr) (l : List Pr) (ks : List Txt) : dropP (p :: l) ks = if ks.contains p.key = true then dropP l ks else p :: dropP l ks := by
  unfold dropP
  rw [List.filter_cons]
  cases h : ks.contains p.key <;> simp at h <;> simp [h]
theorem dropP_put (p : Pr) (hp : okP p = true) (ks : List Txt) (hk : ks.contains p.key = true) : ∀ l, incP l = true → dropP (putP l p) ks = dropP l ks
  | [], _ => by show dropP [p] ks = _; rw [dropP_cons, if_pos hk]
  | x :: l, h => by
    obtain ⟨h1, h2, h3⟩ := (incP_cons x l).1 h
    simp only [putP]
    split
    · rw [dropP_cons, dropP_cons, dropP_put p hp ks hk l h2]
    · split
      · rename_i h0
        have e := cmpK_eq (okP_name h1) h0
        rw [dropP_cons, dropP_cons, if_pos hk, e, if_pos hk]
      · rw [dropP_cons, if_pos hk]
theorem dropP_lays (ks : List Txt) : ∀ (l acc : List Pr), (∀ p ∈ l, okP p = true) → (∀ p ∈ l, ks.contains p.key = true) → incP acc = true → dropP (laysP acc l).1 ks = dropP acc ks
  | [], acc, _, _, _ => rfl
  | p :: l, acc, h1, h2, h => by
    have hp := h1 p List.mem_cons_self
    rw [laysP_step hp, dropP_lays ks l _ (fun q hq => h1 q (List.mem_cons_of_mem _ hq)) (fun q hq => h2 q (List.mem_cons_of_mem _ hq)) (incP_put p hp acc h), dropP_put p hp ks (h2 p List.mem_cons_self) acc h]
/-- No two have one name. -/
def apartP (l : List Pr) : Prop := l.Pairwise fun p q => p.key ≠ q.key
theorem updP_apart (key : Txt) : ∀ (l : List Pr) (o : Option Pr), apartP l → updP o l key = (getP l key).or o
  | [], o, _ => rfl
  | p :: l, o, h => by
    obtain ⟨h1, h2⟩ := List.pairwise_cons.1 h
    rw [updP_cons, updP_apart key l _ h2, getP_cons]
    by_cases e : p.key = key
    · have n1 : getP l key = none := by
        cases g : getP l key with
        | none => rfl
        | some x =>
          obtain ⟨g1, g2⟩ := getP_mem g
          exact (h1 x g1 (e.trans g2.symm)).elim
      rw [if_pos e, if_pos e, n1]; rfl
    · rw [if_neg e, if_neg e]
theorem getP_append (a b : List Pr) (key : Txt) : getP (a ++ b) key = (getP a key).or (getP b key) := by
  unfold getP
  rw [List.find?_append]
theorem apartP_turn {a b : List Pr} (h : apartP (a ++ b)) : apartP (b ++ a) ∧ ∀ key, getP (a ++ b) key = getP (b ++ a) key := by
  obtain ⟨h1, h2, h3⟩ := List.pairwise_append.1 h
  refine ⟨List.pairwise_append.2 ⟨h2, h1, fun p hp q hq e => h3 q hq p hp e.symm⟩, fun key => ?_⟩
  rw [getP_append, getP_append]
  cases ga : getP a key with
  | none => simp
  | some x =>
    cases gb : getP b key with
    | none => simp
    | some y =>
      obtain ⟨a1, a2⟩ := getP_mem ga
      obtain ⟨b1, b2⟩ := getP_mem gb
      exact (h3 x a1 y b1 (a2.trans b2.symm)).elim
/-- Laid in a turned order: the same list. -/
theorem laysP_turn {l ns : List Pr} (k : Nat) (hl : incP l = true) (hn : ∀ p ∈ ns, okP p = true) (ha : apartP ns) : (laysP l (ns.drop k ++ ns.take k)).1 = (laysP l ns).1 := by
  have hn2 : ∀ p ∈ ns.drop k ++ ns.take k, okP p = true := fun p hp => by
    rcases List.mem_append.1 hp with h | h
    · exact hn p (List.mem_of_mem_drop h)
    · exact hn p (List.mem_of_mem_take h)
  refine incP_ext _ _ (laysP_inc _ _ hn2 hl) (laysP_inc _ _ hn hl) fun key => ?_
  rw [laysP_get key _ _ hn2 hl, laysP_get key _ _ hn hl]
  have e : ns = ns.take k ++ ns.drop k := (List.take_append_drop k ns).symm
  rw [e] at ha
  obtain ⟨h1, h2⟩ := apartP_turn ha
  rw [updP_apart key _ _ h1, ← h2 key]
  conv => rhs; rw [e]
  rw [updP_apart key _ _ ha]
theorem updP_last (o : Option Pr) {l : List Pr} (h : l ≠ []) : updP o l (l.getLast h).key = some (l.getLast h) := by
  have e := (List.dropLast_concat_getLast h).symm
  generalize l.getLast h = q at *
  rw [e, updP_append]
  show (if q.key = q.key then some q else _) = _
  rw [if_pos rfl]
theorem setP_one {o : List Pr} {p : Pr} (ho : rightP o = true) (hp : okP p = true) : ((setP o [p]).2 = 32) ∨ ((setP o [p]).2 = 0 ∧ (setP o [p]).1 = putP o p) := by
  have h1 : laysP o [p] = (putP o p, 0) := by rw [laysP_step hp]; rfl
  by_cases h : 16 < (putP o p).length
  · exact .inl (by rw [setP_many ho h1 h])
  · exact .inr (by rw [setP_ok ho h1 h]; exact ⟨rfl, rfl⟩)
theorem prv_drop (l : List Pr) (k : Nat) : (prv l).drop k = prv (l.drop k) := by simp [prv, List.map_drop]
theorem prv_take (l : List Pr) (k : Nat) : (prv l).take k = prv (l.take k) := by simp [prv, List.map_take]
end Go.AL
end

section
namespace Go.AL
theorem mdN_rng {n x : Int} (hn : 0 < n) (hb : n ≤ 1000000) : 0 ≤ Int.tmod (IntKind.i64.wrap (Int.tmod x n + n)) n ∧ Int.tmod (IntKind.i64.wrap (Int.tmod x n + n)) n < n := by
  have a1 : Int.tmod x n < n := Int.tmod_lt_of_pos x hn
  have a2 : -n < Int.tmod x n := by
    have := Int.tmod_lt_of_pos (-x) hn
    rw [Int.neg_tmod] at this
    omega
  rw [wrap_i64 (by omega) (by omega)]
  exact ⟨Int.tmod_nonneg n (by omega), Int.tmod_lt_of_pos _ hn⟩
end Go.AL
namespace Go.Proofs.Ytbghpjamahgegaa
open Go.AL
set_option linter.unusedSimpArgs false
set_option linter.unusedVariables false
set_option maxRecDepth 20000
set_option maxHeartbeats 2000000
theorem copiedX_ok : EntOk Try.prog copiedXE := by
  intro xs σ; simp only [copiedXE]
  split
  · exact copied_ok xs σ
  · simp only [copiedOE]
    split
    · rename_i es s t
      intro hc
      obtain ⟨h1, h2, h3, _⟩ := prsOk_of hc
      have hn : (prv (es.map prOf)).length = (es.map prOf).length := prv_length _
      refine ACall.args ?_ (.cons (wk_prv t h1 h2) (.refl _))
      refine Pg6.copiedS_i σ (es.map prOf) _ (.of_none rfl) ?_
      rw [Nat.zero_add]
      refine gb_by (dt ⟨dt ⟨rfl, .inl rfl, by omega, by omega⟩, rfl⟩) ⟨rfl, rfl⟩
    · trivial
theorem order_law (xs : List AVal) (h : FitsL [.slice (.agg [.str, .int .i64, .int .i64, .str]) 4 48, .slice (.agg [.str, .int .i64, .int .i64, .str]) 4 48, .int .i64] xs) :
    ACall Try.prog 4 xs Sto.empty fun v _ => v = .bool true := by
  obtain ⟨_, _, rfl, f1, _, _, rfl, f2, _, _, rfl, f3, rfl⟩ := h
  obtain ⟨a, rfl, _, fa⟩ := fits_prv f1
  obtain ⟨b, rfl, _, fb⟩ := fits_prv f2
  obtain ⟨t, rfl, _⟩ := f3
  refine Pg6.order_i a b t _ (.of [awakeE, smallE, copiedXE, setE, findRE, sameRE, dropE, getE] rfl ⟨awake_ok, small_ok, copiedX_ok, set_ok, findR_ok, sameR_ok, drop_ok, get_ok, trivial⟩) ?_
  simp only [hold_eq, map_prOf_prv]
  refine brV_by' (fun _ => ?_) (fun h => by cases h)
  refine gb_by (prsAny _) (brV_by' (fun h => ?_) (fun _ => trivial))
  have sa := prsSmall (by simpa using h) fa
  refine gb_by (prsAny _) (brV_by' (fun h => ?_) (fun _ => trivial))
  have sb := prsSmall (by simpa using h) fb
  have na := prv_length a
  have nb := prv_length b
  refine brV_by (fun _ => trivial) (fun h => ?_)
  have hb0 : b ≠ [] := by
    rintro rfl
    simp at h
  have hbp : 0 < b.length := List.length_pos_iff.2 hb0
  have ca := prsOk_mk (l := a) (by omega) sa.2
  have cb := prsOk_mk (l := b) (by omega) sb.2
  intro y hy
  refine gb_by (and_tt ca (and_tt cb (dt (by omega)))) (brV_by (fun _ => trivial) (fun h => ?_))
  have he : y.2 = 0 := by simpa using h
  rw [hy] at he
  obtain ⟨r1, r2, r3, r4⟩ := setP_of he
  rw [← hy] at r3
  have hinca := (rightP_iff.1 r1).1
  have cx : ∀ p ∈ y.1, p.fit := fun p hp => by
    rw [hy] at hp
    rcases setP_mem hp with h | h
    · exact sa.2 p h
    · exact sb.2 p h
  have hxl : y.1.length ≤ 16 := by rw [r3]; exact r4
  clear hy he
  obtain ⟨x, e⟩ := y
  simp only at r3 cx hxl
  have cxo := prsOk_mk (l := x) (by omega) cx
  have nx := prv_length x
  intro a1 ha1
  subst ha1
  refine gb_by ca ?_
  have hlk : ∀ k, ∀ p ∈ (laysP a1 (b.take k)).1, p.fit := fun k p hp => by
    rcases laysP_mem p _ _ hp with h | h
    · exact sa.2 p h
    · exact sb.2 p (List.mem_of_mem_take h)
  refine loopV_intro (α := Nat × List Pr × List Txt × Bool) (fun s => Pg6.orderL_S a1 b x s.2.1 s.2.2.1 t s.2.2.2 s.1)
    (fun s => s.1 ≤ b.length ∧ s.2.1 = (laysP a1 (b.take s.1)).1 ∧ s.2.1.length ≤ 16 ∧ s.2.2.1 = (b.take s.1).map Pr.key ∧ (s.2.2.2 = true → apartP (b.take s.1))) (fun s => b.length - s.1) ?_ (0, a1, [], true)
    ⟨Nat.zero_le _, rfl, (rightP_iff.1 r1).2, rfl, fun _ => .nil⟩
  rintro ⟨i, o, ks, p⟩ ⟨hi, ho, hol, hks, hap⟩ L hL
  simp only at hi ho hol hks hap
  have hkn := strv_length ks
  have hkl : ks.length = i := by rw [hks]; simp; omega
  have hro : rightP o = true := rightP_iff.2 ⟨by rw [ho]; exact laysP_inc _ _ (fun q hq => r2 q (List.mem_of_mem_take hq)) hinca, hol⟩
  have co := prsOk_mk (l := o) (by omega) (by rw [ho]; exact hlk i)
  refine Eq.mpr (Pg6.orderL_r a1 b x o ks t p i L _) ?_
  simp only [hold_eq, map_prOf_prv]
  refine brV_by (fun h => ?_) (fun h => ?_)
  · have hlt : i < b.length := by have := of_decide_eq_true h; omega
    have hbi : b[i] ∈ b := List.getElem_mem hlt
    have htk : b.take (i + 1) = b.take i ++ [b[i]] := List.take_succ_eq_append_getElem hlt
    rw [elemAt_prv b i hlt]
    refine gb_by (dt (by omega)) (gb_by rfl ?_)
    intro y hy
    have hy : y = setP o [b[i]] := hy
    refine gb_by (and_tt co (and_tt (prsOk_mk (l := [b[i]]) (by simp) (fun q hq => by rw [List.mem_singleton.1 hq]; exact sb.2 _ hbi)) rfl)) ?_
    have hone := setP_one hro (r2 _ hbi)
    rw [← hy] at hone
    refine brV_by (fun h => ?_) (fun h => ?_)
    · have hne : y.2 ≠ 0 := by simpa using h
      rcases hone with h32 | ⟨h0, _⟩
      · show AVal.bool (y.2 == 32) = .bool true
        rw [h32]; rfl
      · exact (hne h0).elim
    have h0 : y.2 = 0 := by simpa using h
    rcases hone with h32 | ⟨_, h1⟩
    · rw [h0] at h32; cases h32
    have hyl : y.1 = (laysP a1 (b.take (i + 1))).1 := by
      rw [h1, ho, htk, laysP_append _ _ _ (fun q hq => r2 q (List.mem_of_mem_take hq)), laysP_step (r2 _ hbi)]; rfl
    have hy16 : y.1.length ≤ 16 := by rw [hy]; exact setP_le _ _
    have half : ∀ (q : Bool) (K' : Exit → St → Prop), K' .normal (Pg6.orderJ_S a1 b x y.1 (ks ++ [b[i].key]) t q i) → vc Try.prog Pg6.cOrder Pg6.orderI_C K' (Pg6.orderI_S a1 b x y.1 ks t q i) := by
      intro q K' hK
      refine Eq.mpr (Pg6.orderI_r a1 b x y.1 ks t q i K') ?_
      rw [elemAt_prv b i hlt]
      refine gb_by (dt (by omega)) (gb_by rfl (gb_by (dt ⟨dt ⟨rfl, rfl, by omega, by omega⟩, rfl⟩) ?_))
      have e1 : strv ks ++ [AVal.str (AVal.strOf (List.getD (List.drop 0 [AVal.str b[i].key, AVal.int .i64 b[i].v.k, AVal.int .i64 b[i].v.n, AVal.str b[i].v.s]) 0 .undef))] = strv (ks ++ [b[i].key]) := by simp [strv, AVal.strOf]
      rw [e1, setOwn_e1, show (strv ks).length + 1 = (strv (ks ++ [b[i].key])).length by simp]
      exact hK
    have nxt : ∀ q : Bool, (q = true → apartP (b.take (i + 1))) → L (Pg6.orderL_S a1 b x y.1 (ks ++ [b[i].key]) t q (i + 1)) := fun q hq =>
      hL (i + 1, y.1, ks ++ [b[i].key], q) ⟨hlt, hyl, hy16, by simp only; rw [htk, hks, List.map_append]; rfl, hq⟩ (by simp only; omega)
    have fin : ∀ (q : Bool) (K' : Exit → St → Prop), (q = true → apartP (b.take (i + 1))) → vc Try.prog Pg6.cOrder Pg6.orderJ_C (thenK (fun s => L (St.norm [(9, 1004), (10, 1)] [0, 1, 2, 7, 9, 10, 11, 12] [] s)) K') (Pg6.orderJ_S a1 b x y.1 (ks ++ [b[i].key]) t q i) := by
      intro q K' hq
      refine Eq.mpr (Pg6.orderJ_r a1 b x y.1 (ks ++ [b[i].key]) t q i _) ?_
      rw [i64_succ hlt (by omega)]
      exact thenN (nxt q hq)
    refine brV_by (fun hp => ?_) (fun hp => ?_)
    · have hapi := hap hp
      have hti : (List.take (Int.toNat (i : Int) - 0) (List.drop 0 (prv b))) = prv (b.take i) := by rw [Int.toNat_natCast, Nat.sub_zero, List.drop_zero, prv_take]
      refine gb_by (dt (by omega)) (gb_by (dt (by omega)) (gb_by rfl ?_))
      intro y1 hy1 y2 hy2
      rw [hti, map_prOf_prv] at hy1 hy2
      rw [hti]
      have hy1 : y1 = (b.take i).any fun p => p.key == b[i].key := hy1
      refine gb_by (prsOk_mk (by rw [List.length_take]; omega) fun q hq => sb.2 q (List.mem_of_mem_take hq)) (toCut ?_)
      refine half (decide (y2 < 0)) _ (inBlock (toCut (fin _ _ fun h => ?_)))
      have h : y2 < 0 := of_decide_eq_true h
      have hn : y1 = false := by
        cases hb1 : y1 with
        | false => rfl
        | true => rw [hb1, if_pos rfl] at hy2; omega
      rw [htk]
      refine List.pairwise_append.2 ⟨hapi, List.pairwise_singleton _ _, fun u hu v hv e => ?_⟩
      rw [List.mem_singleton.1 hv] at e
      rw [hn] at hy1
      have := List.any_eq_false.1 hy1.symm u hu
      rw [e] at this
      simp at this
    · refine toCut (half false _ (inBlock (toCut (fin _ _ fun h => by cases h))))
  · have hge : i = b.length := by have := of_decide_eq_false h; omega
    rw [hge, List.take_length] at ho hks hap
    have hox : o = x := by rw [ho, r3]
    subst hox
    refine leaveTo (toCut (Eq.mpr (Pg6.orderA_r a1 b o o ks t p _) ?_))
    simp only [hold_eq, map_prOf_prv, map_strOf_strv]
    have cks := strsOk_mk (l := ks) (by omega)
    have hdrop : dropP o ks = dropP a1 ks := by
      rw [ho]
      exact dropP_lays ks b a1 r2 (fun q hq => by rw [hks]; simp; exact ⟨q, hq, rfl⟩) hinca
    have hlast := updP_last (getP a1 (b.getLast hb0).key) hb0
    have hgx : getP o (b.getLast hb0).key = some (b.getLast hb0) := by rw [ho, laysP_get _ b a1 r2 hinca, hlast]
    have hbl : b.getLast hb0 = b[b.length - 1]'(by omega) := List.getLast_eq_getElem _
    rw [hbl] at hgx
    have hwm : IntKind.i64.wrap (((prv b).length : Int) - 1) = ((b.length - 1 : Nat) : Int) := by rw [wrap_i64 (by omega) (by omega)]; omega
    rw [hwm, elemAt_prv b (b.length - 1) (by omega)]
    intro y1 h1
    obtain rfl : y1 = true := by rw [h1]; exact dt trivial
    refine gb_by (and_tt cxo cxo) (brV_by' (fun _ => ?_) (fun h => by cases h))
    intro d1 hd1
    refine gb_by (and_tt cxo cks) ?_
    intro d2 hd2
    refine gb_by (and_tt ca cks) ?_
    obtain rfl : d1 = d2 := by rw [hd1, hd2, hdrop]
    have hdl := dropP_length_le o ks
    rw [← hd1] at hdl
    have cd := prsOk_mk (l := d1) (by omega) fun q hq => cx q (by rw [hd1] at hq; exact (List.mem_filter.1 hq).1)
    intro y2 h2
    obtain rfl : y2 = true := by rw [h2]; exact dt rfl
    refine gb_by (and_tt cd cd) (brV_by (fun h => by cases h) (fun _ => ?_))
    refine gb_by (dt (by omega)) (gb_by rfl ?_)
    intro g hg v hv
    have hg : g = some b[b.length - 1] := by rw [hg]; exact hgx
    subst hg
    have hv : v = b[b.length - 1].v := hv
    subst hv
    refine gb_by cxo (brV_by' (fun _ => ?_) (fun h => by simp at h))
    refine gb_by (dt (by omega)) (gb_by rfl (brV_by (fun h => ?_) (fun _ => ?_)))
    · simp [AVal.intOf, AVal.strOf] at h
    refine gb_by (dt (by omega)) (gb_by (dt (by omega)) ?_)
    intro m hm
    rw [nb] at hm
    obtain ⟨m0, m1⟩ := mdN_rng (n := (b.length : Int)) (x := t) (by omega) (by omega)
    rw [← hm] at m0 m1
    obtain ⟨k, rfl⟩ : ∃ k : Nat, m = (k : Int) := ⟨m.toNat, by omega⟩
    refine toCut (Eq.mpr (Pg6.orderF_r a1 b o (strv ks).length p k _) ?_)
    have t1 : List.take (Int.toNat ((prv b).length : Int) - Int.toNat (k : Int)) (List.drop (Int.toNat (k : Int)) (prv b)) = prv (b.drop k) := by
      rw [Int.toNat_natCast, Int.toNat_natCast, prv_drop, prv_take, List.take_of_length_le (by rw [List.length_drop]; omega)]
    have t2 : List.take (Int.toNat (k : Int) - 0) (List.drop 0 (prv b)) = prv (b.take k) := by rw [Int.toNat_natCast, Nat.sub_zero, List.drop_zero, prv_take]
    rw [t1, t2]
    simp only [hold_eq, map_prOf_prv, ← prv_append]
    have fk : ∀ l : List Pr, (∀ q ∈ l, q ∈ b) → l.length ≤ 40 → prsOk (prv l) 4 = true := fun l h1 h2 => prsOk_mk (by omega) fun q hq => sb.2 q (h1 q hq)
    have n1 := prv_length (b.drop k)
    have n2 := prv_length (b.take k)
    have n3 := prv_length (b.drop k ++ b.take k)
    rw [List.length_drop] at n1
    rw [List.length_take] at n2
    rw [List.length_append, List.length_drop, List.length_take] at n3
    refine gb_by (dt (by omega)) (gb_by (fk _ (fun q => List.mem_of_mem_drop) (by rw [List.length_drop]; omega)) (gb_by (dt (by omega)) (gb_by (dt ⟨dt ⟨trivial, trivial, by omega, by omega⟩, trivial⟩) ?_)))
    have hmb : ∀ q ∈ b.drop k ++ b.take k, q ∈ b := fun q hq => by
      rcases List.mem_append.1 hq with h | h
      · exact List.mem_of_mem_drop h
      · exact List.mem_of_mem_take h
    intro w hw
    refine gb_by (and_tt ca (and_tt (fk _ hmb (by rw [List.length_append, List.length_drop, List.length_take]; omega)) (dt (by omega)))) ?_
    refine brV_by' (fun hp => ?_) (fun _ => trivial)
    have hpt : p = true := by simpa using hp
    have hturn := laysP_turn k hinca r2 (hap hpt)
    have hw2 : w = (o, 0) := by
      rw [hw, setP_mk r1 (fun q hq => r2 q (hmb q hq)) (by rw [hturn, ← ho]; omega), hturn, ← ho]
    subst hw2
    refine brV_by (fun _ => ?_) (fun h => by simp at h)
    intro z hz
    obtain rfl : z = true := by rw [hz]; exact dt rfl
    refine gb_by (and_tt cxo cxo) rfl
end Go.Proofs.Ytbghpjamahgegaa
end
