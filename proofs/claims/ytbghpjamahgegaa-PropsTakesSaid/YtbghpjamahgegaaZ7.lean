/-
  The texts P7r, Pv, Pw, Py, PL, PF, PM of this seat, one behind the other.
-/
import Derived.Test.YtbghpjamahgegaaZ6
import Derived.KernelRfl
import Derived.Lib.MapLaws

section
set_option maxRecDepth 100000
set_option maxHeartbeats 0
set_option linter.unusedVariables false
namespace Go.Proofs.Ytbghpjamahgegaa.Pt7
open Go.AL Go.Proofs
noncomputable def cTake : Cfg := { keep := [0, 2, 3, 4, 5, 6, 7, 8, 9, 10, 11, 12, 16, 24, 25, 26, 44, 75, 90], cut := [(17, [0, 5, 6, 24, 25], []), (44, [5, 6], [])], orc := ofList [Lt.rightE, byE, V.takeE], grow := [(5, 4)], nmd := [8] }
noncomputable def cTakeR : Cfg := { keep := [0, 2, 3, 4, 5, 6, 7, 8, 9, 10, 11, 12, 13, 16, 22, 25, 31, 43, 73, 87], cut := [(19, [0, 5, 6, 7, 8], []), (52, [6, 7], [])], orc := ofList [Lt.rightRE, Lt.compareRE, V.takeRE], grow := [(6, 4)], nmd := [9] }
noncomputable def cTakes : Cfg := { keep := [0, 1, 4, 5, 6, 7, 8, 9, 10, 11, 12, 24, 62, 70, 87], cut := [], orc := ofList [awakeE, smallE, takeE, takeRE, sameRE, rightRE, bytesE, bytesRE] }
noncomputable def code_22_ : Code := (Try.f22.body).getD .skip
noncomputable def code_23_ : Code := (Try.f23.body).getD .skip
noncomputable def code_7_ : Code := (Try.f7.body).getD .skip
noncomputable def code_22_1_1_1_1_1 : Code := codeAt code_22_ [1, 1, 1, 1, 1]
noncomputable def code_23_1_1_1_1_1_1_1 : Code := codeAt code_23_ [1, 1, 1, 1, 1, 1, 1]
noncomputable def code_22_1_1_1_1_0_1_0_0 : Code := codeAt code_22_ [1, 1, 1, 1, 0, 1, 0, 0]
noncomputable def code_23_1_1_1_1_1_1_0_1_0_0 : Code := codeAt code_23_ [1, 1, 1, 1, 1, 1, 0, 1, 0, 0]
theorem take_r (b : Txt) (Q : AVal → Sto → Prop) : vc Try.prog cTake code_22_ (endK Try.prog Try.f22.results.toList Q) (St.start Try.f22.ntmps [.slice (bw b) 1 .ro] (Sto.empty)) =
  (brV (hold ((↑(List.length (bw b)) : Int) == (0 : Int))) true (Q (AVal.tuple [AVal.slice [] 0 Tag.nil, AVal.int IntKind.i64 (0 : Int), AVal.int IntKind.i64 (20 : Int)]) Sto.empty) (gb (decide ((0 : Int) ≤ (0 : Int) ∧ (0 : Int) < (↑(List.length (bw b)) : Int))) (gb (decide (1 ≤ List.length (elemAt (bw b) (0 : Int)) ∧ 0 < 1) && etaOk (Sh.int IntKind.u8) (List.getD (elemAt (bw b) (0 : Int)) 0 AVal.undef)) (brV (hold (decide ((16 : Int) < AVal.intOf (List.getD (elemAt (bw b) (0 : Int)) 0 AVal.undef)))) true (Q (AVal.tuple [AVal.slice [] 0 Tag.nil, AVal.int IntKind.i64 (0 : Int), AVal.int IntKind.i64 (10 : Int)]) Sto.empty) (gb (decide ((0 : Int) ≤ (0 : Int) ∧ (0 : Int) < (↑(List.length (bw b)) : Int))) (gb (decide (1 ≤ List.length (elemAt (bw b) (0 : Int)) ∧ 0 < 1) && etaOk (Sh.int IntKind.u8) (List.getD (elemAt (bw b) (0 : Int)) 0 AVal.undef)) (loopV (fun s => St.norm [(5, 4)] [0, 5, 6, 24, 25] [] s) (vc Try.prog cTake code_22_1_1_1_1_0_1_0_0) (blockK 1 (thenK (fun s => cutV (vc Try.prog cTake code_22_1_1_1_1_1 (endK Try.prog (Array.toList (Go.Func.results Try.f22)) Q)) (St.norm [(5, 4)] [5, 6] [] s)) (endK Try.prog (Array.toList (Go.Func.results Try.f22)) Q))) (St.mk 104 [(0, AVal.slice (bw b) 1 Tag.ro), (5, AVal.slice [] 4 (Tag.own 0)), (6, AVal.int IntKind.i64 (1 : Int)), (24, AVal.int IntKind.i64 (IntKind.wrap IntKind.i64 (AVal.intOf (List.getD (elemAt (bw b) (0 : Int)) 0 AVal.undef)))), (25, AVal.int IntKind.i64 (0 : Int))] [] [] (Sto.pushOwn Sto.empty 0))))))))) := by kernel_rfl
theorem take_i (b : Txt) (Q : AVal → Sto → Prop) (ho : OrcOk Try.prog cTake) (h : brV (hold ((↑(List.length (bw b)) : Int) == (0 : Int))) true (Q (AVal.tuple [AVal.slice [] 0 Tag.nil, AVal.int IntKind.i64 (0 : Int), AVal.int IntKind.i64 (20 : Int)]) Sto.empty) (gb (decide ((0 : Int) ≤ (0 : Int) ∧ (0 : Int) < (↑(List.length (bw b)) : Int))) (gb (decide (1 ≤ List.length (elemAt (bw b) (0 : Int)) ∧ 0 < 1) && etaOk (Sh.int IntKind.u8) (List.getD (elemAt (bw b) (0 : Int)) 0 AVal.undef)) (brV (hold (decide ((16 : Int) < AVal.intOf (List.getD (elemAt (bw b) (0 : Int)) 0 AVal.undef)))) true (Q (AVal.tuple [AVal.slice [] 0 Tag.nil, AVal.int IntKind.i64 (0 : Int), AVal.int IntKind.i64 (10 : Int)]) Sto.empty) (gb (decide ((0 : Int) ≤ (0 : Int) ∧ (0 : Int) < (↑(List.length (bw b)) : Int))) (gb (decide (1 ≤ List.length (elemAt (bw b) (0 : Int)) ∧ 0 < 1) && etaOk (Sh.int IntKind.u8) (List.getD (elemAt (bw b) (0 : Int)) 0 AVal.undef)) (loopV (fun s => St.norm [(5, 4)] [0, 5, 6, 24, 25] [] s) (vc Try.prog cTake code_22_1_1_1_1_0_1_0_0) (blockK 1 (thenK (fun s => cutV (vc Try.prog cTake code_22_1_1_1_1_1 (endK Try.prog (Array.toList (Go.Func.results Try.f22)) Q)) (St.norm [(5, 4)] [5, 6] [] s)) (endK Try.prog (Array.toList (Go.Func.results Try.f22)) Q))) (St.mk 104 [(0, AVal.slice (bw b) 1 Tag.ro), (5, AVal.slice [] 4 (Tag.own 0)), (6, AVal.int IntKind.i64 (1 : Int)), (24, AVal.int IntKind.i64 (IntKind.wrap IntKind.i64 (AVal.intOf (List.getD (elemAt (bw b) (0 : Int)) 0 AVal.undef)))), (25, AVal.int IntKind.i64 (0 : Int))] [] [] (Sto.pushOwn Sto.empty 0))))))))) : ACall Try.prog 22 [.slice (bw b) 1 .ro] (Sto.empty) Q :=
  ACall.intro hmix Try.func22 (c := code_22_) (by kernel_rfl) cTake ho (Nat.le_of_ble_eq_true (by kernel_rfl)) (by rw [take_r]; exact h)
noncomputable def takeL_S (b : Txt) (o : List Pr) (a n i : Nat) : St := St.mk 104 [(0, .slice (bw b) 1 .ro), (5, .slice (prv o) 4 (.own 0)), (6, .int .i64 (a : Int)), (24, .int .i64 (n : Int)), (25, .int .i64 (i : Int))] [] [] (Sto.pushOwn Sto.empty (prv o).length)
noncomputable abbrev takeL_C : Code := code_22_1_1_1_1_0_1_0_0
theorem takeL_r (b : Txt) (o : List Pr) (a n i : Nat) (L : St → Prop) (K : Exit → St → Prop) : vc Try.prog cTake code_22_1_1_1_1_0_1_0_0 (thenK (fun s => L (St.norm [(5, 4)] [0, 5, 6, 24, 25] [] s)) K) (St.mk 104 [(0, .slice (bw b) 1 .ro), (5, .slice (prv o) 4 (.own 0)), (6, .int .i64 (a : Int)), (24, .int .i64 (n : Int)), (25, .int .i64 (i : Int))] [] [] (Sto.pushOwn Sto.empty (prv o).length)) =
  (brV (hold (decide ((↑i : Int) < (↑n : Int)))) true (brV (hold ((↑a : Int) == (↑(List.length (bw b)) : Int))) false (gb (decide ((0 : Int) ≤ (↑a : Int) ∧ (↑a : Int) < (↑(List.length (bw b)) : Int))) (gb (decide (1 ≤ List.length (elemAt (bw b) (↑a : Int)) ∧ 0 < 1) && etaOk (Sh.int IntKind.u8) (List.getD (elemAt (bw b) (↑a : Int)) 0 AVal.undef)) (brV (hold (decide (IntKind.wrap IntKind.i64 (IntKind.wrap IntKind.i64 ((↑(List.length (bw b)) : Int) - (↑a : Int)) - (1 : Int)) < IntKind.wrap IntKind.i64 (AVal.intOf (List.getD (elemAt (bw b) (↑a : Int)) 0 AVal.undef))))) true (K Exit.ret (St.mk 104 [(0, AVal.slice (bw b) 1 Tag.ro), (5, AVal.slice (prv o) 4 (Tag.own 0)), (6, AVal.int IntKind.i64 (↑a : Int)), (24, AVal.int IntKind.i64 (↑n : Int)), (25, AVal.int IntKind.i64 (↑i : Int)), (26, AVal.bool (hold (decide ((↑i : Int) < (↑n : Int))))), (7, AVal.int IntKind.i64 (↑i : Int)), (44, AVal.bool (hold (decide (IntKind.wrap IntKind.i64 (IntKind.wrap IntKind.i64 ((↑(List.length (bw b)) : Int) - (↑a : Int)) - (1 : Int)) < IntKind.wrap IntKind.i64 (AVal.intOf (List.getD (elemAt (bw b) (↑a : Int)) 0 AVal.undef)))))), (2, AVal.slice [] 0 Tag.nil), (3, AVal.int IntKind.i64 (0 : Int)), (4, AVal.int IntKind.i64 (20 : Int))] [] [] (Sto.pushOwn Sto.empty (List.length (prv o))))) (gb (decide ((0 : Int) ≤ (↑a : Int) ∧ (↑a : Int) < (↑(List.length (bw b)) : Int))) (gb (decide (1 ≤ List.length (elemAt (bw b) (↑a : Int)) ∧ 0 < 1) && etaOk (Sh.int IntKind.u8) (List.getD (elemAt (bw b) (↑a : Int)) 0 AVal.undef)) (gb (decide ((0 : Int) ≤ IntKind.wrap IntKind.i64 ((↑a : Int) + (1 : Int)) ∧ IntKind.wrap IntKind.i64 ((↑a : Int) + (1 : Int)) ≤ IntKind.wrap IntKind.i64 (IntKind.wrap IntKind.i64 ((↑a : Int) + (1 : Int)) + IntKind.wrap IntKind.i64 (AVal.intOf (List.getD (elemAt (bw b) (↑a : Int)) 0 AVal.undef))) ∧ IntKind.wrap IntKind.i64 (IntKind.wrap IntKind.i64 ((↑a : Int) + (1 : Int)) + IntKind.wrap IntKind.i64 (AVal.intOf (List.getD (elemAt (bw b) (↑a : Int)) 0 AVal.undef))) ≤ (↑(List.length (bw b)) : Int))) (gb (decide (List.all (List.take (Int.toNat (IntKind.wrap IntKind.i64 (IntKind.wrap IntKind.i64 ((↑a : Int) + (1 : Int)) + IntKind.wrap IntKind.i64 (AVal.intOf (List.getD (elemAt (bw b) (↑a : Int)) 0 AVal.undef)))) - Int.toNat (IntKind.wrap IntKind.i64 ((↑a : Int) + (1 : Int)))) (List.drop (Int.toNat (IntKind.wrap IntKind.i64 ((↑a : Int) + (1 : Int)))) (bw b))) isU8 = true)) (∀ (m : List UInt8), m = List.map AL.byteOf (List.take (Int.toNat (IntKind.wrap IntKind.i64 (IntKind.wrap IntKind.i64 ((↑a : Int) + (1 : Int)) + IntKind.wrap IntKind.i64 (AVal.intOf (List.getD (elemAt (bw b) (↑a : Int)) 0 AVal.undef)))) - Int.toNat (IntKind.wrap IntKind.i64 ((↑a : Int) + (1 : Int)))) (List.drop (Int.toNat (IntKind.wrap IntKind.i64 ((↑a : Int) + (1 : Int)))) (bw b))) → gb (List.all [AVal.str m] strIs && (Go.Proofs.Ytbghpjamahgegaa.Lt.lenOk 1 && List.all [AVal.str m] Go.Proofs.Ytbghpjamahgegaa.Lt.strOk)) (brV (!hold (List.all [m] nameT)) false (brV (hold (decide ((0 : Int) < (↑i : Int)))) true (gb (decide ((0 : Int) ≤ IntKind.wrap IntKind.i64 ((↑i : Int) - (1 : Int)) ∧ IntKind.wrap IntKind.i64 ((↑i : Int) - (1 : Int)) < (↑(List.length (prv o)) : Int))) (gb (decide (4 ≤ List.length (elemAt (prv o) (IntKind.wrap IntKind.i64 ((↑i : Int) - (1 : Int)))) ∧ 0 < 4) && (etaOk Sh.str (List.getD (elemAt (prv o) (IntKind.wrap IntKind.i64 ((↑i : Int) - (1 : Int)))) 0 AVal.undef) && (etaOk (Sh.int IntKind.i64) (List.getD (elemAt (prv o) (IntKind.wrap IntKind.i64 ((↑i : Int) - (1 : Int)))) 1 AVal.undef) && (etaOk (Sh.int IntKind.i64) (List.getD (elemAt (prv o) (IntKind.wrap IntKind.i64 ((↑i : Int) - (1 : Int)))) 2 AVal.undef) && (etaOk Sh.str (List.getD (elemAt (prv o) (IntKind.wrap IntKind.i64 ((↑i : Int) - (1 : Int)))) 3 AVal.undef) && true))))) (∀ (y : Int), y = cmpK (AVal.strOf (List.getD (elemAt (prv o) (IntKind.wrap IntKind.i64 ((↑i : Int) - (1 : Int)))) 0 AVal.undef)) m → gb (Go.Proofs.Ytbghpjamahgegaa.Lt.lenT (AVal.strOf (List.getD (elemAt (prv o) (IntKind.wrap IntKind.i64 ((↑i : Int) - (1 : Int)))) 0 AVal.undef)) && Go.Proofs.Ytbghpjamahgegaa.Lt.lenT m) (brV (hold (decide ((0 : Int) ≤ y))) true (K Exit.ret (St.mk 104 [(0, AVal.slice (bw b) 1 Tag.ro), (5, AVal.slice (prv o) 4 (Tag.own 0)), (6, AVal.int IntKind.i64 (↑a : Int)), (24, AVal.int IntKind.i64 (↑n : Int)), (25, AVal.int IntKind.i64 (↑i : Int)), (26, AVal.bool (hold (decide ((↑i : Int) < (↑n : Int))))), (7, AVal.int IntKind.i64 (↑i : Int)), (44, AVal.bool (hold (decide (IntKind.wrap IntKind.i64 (IntKind.wrap IntKind.i64 ((↑(List.length (bw b)) : Int) - (↑a : Int)) - (1 : Int)) < IntKind.wrap IntKind.i64 (AVal.intOf (List.getD (elemAt (bw b) (↑a : Int)) 0 AVal.undef)))))), (8, AVal.str m), (75, AVal.bool (hold (decide ((0 : Int) ≤ y)))), (2, AVal.slice [] 0 Tag.nil), (3, AVal.int IntKind.i64 (0 : Int)), (4, AVal.int IntKind.i64 (30 : Int))] [] [] (Sto.pushOwn Sto.empty (List.length (prv o))))) (gb (decide ((0 : Int) ≤ IntKind.wrap IntKind.i64 ((↑a : Int) + IntKind.wrap IntKind.i64 ((1 : Int) + (↑(List.length m) : Int))) ∧ IntKind.wrap IntKind.i64 ((↑a : Int) + IntKind.wrap IntKind.i64 ((1 : Int) + (↑(List.length m) : Int))) ≤ (↑(List.length (bw b)) : Int) ∧ (↑(List.length (bw b)) : Int) ≤ (↑(List.length (bw b)) : Int))) (∀ (y_1 : Vl × Nat × Int), y_1 = takeV (List.map AL.byteOf (List.take (Int.toNat (↑(List.length (bw b)) : Int) - Int.toNat (IntKind.wrap IntKind.i64 ((↑a : Int) + IntKind.wrap IntKind.i64 ((1 : Int) + (↑(List.length m) : Int))))) (List.drop (Int.toNat (IntKind.wrap IntKind.i64 ((↑a : Int) + IntKind.wrap IntKind.i64 ((1 : Int) + (↑(List.length m) : Int))))) (bw b)))) → gb (List.all (List.take (Int.toNat (↑(List.length (bw b)) : Int) - Int.toNat (IntKind.wrap IntKind.i64 ((↑a : Int) + IntKind.wrap IntKind.i64 ((1 : Int) + (↑(List.length m) : Int))))) (List.drop (Int.toNat (IntKind.wrap IntKind.i64 ((↑a : Int) + IntKind.wrap IntKind.i64 ((1 : Int) + (↑(List.length m) : Int))))) (bw b))) byteIs && hold (decide (List.length (List.take (Int.toNat (↑(List.length (bw b)) : Int) - Int.toNat (IntKind.wrap IntKind.i64 ((↑a : Int) + IntKind.wrap IntKind.i64 ((1 : Int) + (↑(List.length m) : Int))))) (List.drop (Int.toNat (IntKind.wrap IntKind.i64 ((↑a : Int) + IntKind.wrap IntKind.i64 ((1 : Int) + (↑(List.length m) : Int))))) (bw b))) ≤ 1000000))) (brV (hold (Prod.snd (Prod.snd y_1) != (0 : Int))) true (K Exit.ret (St.mk 104 [(0, AVal.slice (bw b) 1 Tag.ro), (5, AVal.slice (prv o) 4 (Tag.own 0)), (6, AVal.int IntKind.i64 (IntKind.wrap IntKind.i64 ((↑a : Int) + IntKind.wrap IntKind.i64 ((1 : Int) + (↑(List.length m) : Int))))), (24, AVal.int IntKind.i64 (↑n : Int)), (25, AVal.int IntKind.i64 (↑i : Int)), (26, AVal.bool (hold (decide ((↑i : Int) < (↑n : Int))))), (7, AVal.int IntKind.i64 (↑i : Int)), (44, AVal.bool (hold (decide (IntKind.wrap IntKind.i64 (IntKind.wrap IntKind.i64 ((↑(List.length (bw b)) : Int) - (↑a : Int)) - (1 : Int)) < IntKind.wrap IntKind.i64 (AVal.intOf (List.getD (elemAt (bw b) (↑a : Int)) 0 AVal.undef)))))), (8, AVal.str m), (75, AVal.bool (hold (decide ((0 : Int) ≤ y)))), (9, AVal.ptr (Oid.loc 9) 0), (10, AVal.int IntKind.i64 (↑(Prod.fst (Prod.snd y_1)) : Int)), (11, AVal.int IntKind.i64 (Prod.snd (Prod.snd y_1))), (90, AVal.bool (hold (Prod.snd (Prod.snd y_1) != (0 : Int)))), (2, AVal.slice [] 0 Tag.nil), (3, AVal.int IntKind.i64 (0 : Int)), (4, AVal.int IntKind.i64 (Prod.snd (Prod.snd y_1)))] [] [(9, AObj.cells [AVal.int IntKind.i64 (Vl.k (Prod.fst y_1)), AVal.int IntKind.i64 (Vl.n (Prod.fst y_1)), AVal.str (Vl.s (Prod.fst y_1))])] (Sto.pushOwn Sto.empty (List.length (prv o))))) (gb (decide (decide (true = true ∧ some (List.length (prv o)) = some (List.length (prv o)) ∧ (List.length (prv o) + 1) * 48 ≤ 140737488355328 ∧ List.length (prv o) + 1 ≤ 9223372036854775807) = true ∧ true = true)) (L (St.mk 104 [(0, AVal.slice (bw b) 1 Tag.ro), (5, AVal.slice (prv o ++ [AVal.agg [AVal.str m, AVal.int IntKind.i64 (Vl.k (Prod.fst y_1)), AVal.int IntKind.i64 (Vl.n (Prod.fst y_1)), AVal.str (Vl.s (Prod.fst y_1))]]) 4 (Tag.own 0)), (6, AVal.int IntKind.i64 (IntKind.wrap IntKind.i64 (IntKind.wrap IntKind.i64 ((↑a : Int) + IntKind.wrap IntKind.i64 ((1 : Int) + (↑(List.length m) : Int))) + (↑(Prod.fst (Prod.snd y_1)) : Int)))), (24, AVal.int IntKind.i64 (↑n : Int)), (25, AVal.int IntKind.i64 (IntKind.wrap IntKind.i64 ((↑i : Int) + (1 : Int))))] [] [] (Sto.setOwn (Sto.pushOwn Sto.empty (List.length (prv o))) 0 (List.length (prv o) + 1)))))))))))) (gb (decide ((0 : Int) ≤ IntKind.wrap IntKind.i64 ((↑a : Int) + IntKind.wrap IntKind.i64 ((1 : Int) + (↑(List.length m) : Int))) ∧ IntKind.wrap IntKind.i64 ((↑a : Int) + IntKind.wrap IntKind.i64 ((1 : Int) + (↑(List.length m) : Int))) ≤ (↑(List.length (bw b)) : Int) ∧ (↑(List.length (bw b)) : Int) ≤ (↑(List.length (bw b)) : Int))) (∀ (y : Vl × Nat × Int), y = takeV (List.map AL.byteOf (List.take (Int.toNat (↑(List.length (bw b)) : Int) - Int.toNat (IntKind.wrap IntKind.i64 ((↑a : Int) + IntKind.wrap IntKind.i64 ((1 : Int) + (↑(List.length m) : Int))))) (List.drop (Int.toNat (IntKind.wrap IntKind.i64 ((↑a : Int) + IntKind.wrap IntKind.i64 ((1 : Int) + (↑(List.length m) : Int))))) (bw b)))) → gb (List.all (List.take (Int.toNat (↑(List.length (bw b)) : Int) - Int.toNat (IntKind.wrap IntKind.i64 ((↑a : Int) + IntKind.wrap IntKind.i64 ((1 : Int) + (↑(List.length m) : Int))))) (List.drop (Int.toNat (IntKind.wrap IntKind.i64 ((↑a : Int) + IntKind.wrap IntKind.i64 ((1 : Int) + (↑(List.length m) : Int))))) (bw b))) byteIs && hold (decide (List.length (List.take (Int.toNat (↑(List.length (bw b)) : Int) - Int.toNat (IntKind.wrap IntKind.i64 ((↑a : Int) + IntKind.wrap IntKind.i64 ((1 : Int) + (↑(List.length m) : Int))))) (List.drop (Int.toNat (IntKind.wrap IntKind.i64 ((↑a : Int) + IntKind.wrap IntKind.i64 ((1 : Int) + (↑(List.length m) : Int))))) (bw b))) ≤ 1000000))) (brV (hold (Prod.snd (Prod.snd y) != (0 : Int))) true (K Exit.ret (St.mk 104 [(0, AVal.slice (bw b) 1 Tag.ro), (5, AVal.slice (prv o) 4 (Tag.own 0)), (6, AVal.int IntKind.i64 (IntKind.wrap IntKind.i64 ((↑a : Int) + IntKind.wrap IntKind.i64 ((1 : Int) + (↑(List.length m) : Int))))), (24, AVal.int IntKind.i64 (↑n : Int)), (25, AVal.int IntKind.i64 (↑i : Int)), (26, AVal.bool (hold (decide ((↑i : Int) < (↑n : Int))))), (7, AVal.int IntKind.i64 (↑i : Int)), (44, AVal.bool (hold (decide (IntKind.wrap IntKind.i64 (IntKind.wrap IntKind.i64 ((↑(List.length (bw b)) : Int) - (↑a : Int)) - (1 : Int)) < IntKind.wrap IntKind.i64 (AVal.intOf (List.getD (elemAt (bw b) (↑a : Int)) 0 AVal.undef)))))), (8, AVal.str m), (75, AVal.bool false), (9, AVal.ptr (Oid.loc 9) 0), (10, AVal.int IntKind.i64 (↑(Prod.fst (Prod.snd y)) : Int)), (11, AVal.int IntKind.i64 (Prod.snd (Prod.snd y))), (90, AVal.bool (hold (Prod.snd (Prod.snd y) != (0 : Int)))), (2, AVal.slice [] 0 Tag.nil), (3, AVal.int IntKind.i64 (0 : Int)), (4, AVal.int IntKind.i64 (Prod.snd (Prod.snd y)))] [] [(9, AObj.cells [AVal.int IntKind.i64 (Vl.k (Prod.fst y)), AVal.int IntKind.i64 (Vl.n (Prod.fst y)), AVal.str (Vl.s (Prod.fst y))])] (Sto.pushOwn Sto.empty (List.length (prv o))))) (gb (decide (decide (true = true ∧ some (List.length (prv o)) = some (List.length (prv o)) ∧ (List.length (prv o) + 1) * 48 ≤ 140737488355328 ∧ List.length (prv o) + 1 ≤ 9223372036854775807) = true ∧ true = true)) (L (St.mk 104 [(0, AVal.slice (bw b) 1 Tag.ro), (5, AVal.slice (prv o ++ [AVal.agg [AVal.str m, AVal.int IntKind.i64 (Vl.k (Prod.fst y)), AVal.int IntKind.i64 (Vl.n (Prod.fst y)), AVal.str (Vl.s (Prod.fst y))]]) 4 (Tag.own 0)), (6, AVal.int IntKind.i64 (IntKind.wrap IntKind.i64 (IntKind.wrap IntKind.i64 ((↑a : Int) + IntKind.wrap IntKind.i64 ((1 : Int) + (↑(List.length m) : Int))) + (↑(Prod.fst (Prod.snd y)) : Int)))), (24, AVal.int IntKind.i64 (↑n : Int)), (25, AVal.int IntKind.i64 (IntKind.wrap IntKind.i64 ((↑i : Int) + (1 : Int))))] [] [] (Sto.setOwn (Sto.pushOwn Sto.empty (List.length (prv o))) 0 (List.length (prv o) + 1))))))))) (K Exit.ret (St.mk 104 [(0, AVal.slice (bw b) 1 Tag.ro), (5, AVal.slice (prv o) 4 (Tag.own 0)), (6, AVal.int IntKind.i64 (↑a : Int)), (24, AVal.int IntKind.i64 (↑n : Int)), (25, AVal.int IntKind.i64 (↑i : Int)), (26, AVal.bool (hold (decide ((↑i : Int) < (↑n : Int))))), (7, AVal.int IntKind.i64 (↑i : Int)), (44, AVal.bool (hold (decide (IntKind.wrap IntKind.i64 (IntKind.wrap IntKind.i64 ((↑(List.length (bw b)) : Int) - (↑a : Int)) - (1 : Int)) < IntKind.wrap IntKind.i64 (AVal.intOf (List.getD (elemAt (bw b) (↑a : Int)) 0 AVal.undef)))))), (8, AVal.str m), (75, AVal.bool true), (2, AVal.slice [] 0 Tag.nil), (3, AVal.int IntKind.i64 (0 : Int)), (4, AVal.int IntKind.i64 (30 : Int))] [] [] (Sto.pushOwn Sto.empty (List.length (prv o)))))))))))))) (K Exit.ret (St.mk 104 [(0, AVal.slice (bw b) 1 Tag.ro), (5, AVal.slice (prv o) 4 (Tag.own 0)), (6, AVal.int IntKind.i64 (↑a : Int)), (24, AVal.int IntKind.i64 (↑n : Int)), (25, AVal.int IntKind.i64 (↑i : Int)), (26, AVal.bool (hold (decide ((↑i : Int) < (↑n : Int))))), (7, AVal.int IntKind.i64 (↑i : Int)), (44, AVal.bool true), (2, AVal.slice [] 0 Tag.nil), (3, AVal.int IntKind.i64 (0 : Int)), (4, AVal.int IntKind.i64 (20 : Int))] [] [] (Sto.pushOwn Sto.empty (List.length (prv o)))))) (K (Exit.exit 1) (St.mk 104 [(0, AVal.slice (bw b) 1 Tag.ro), (5, AVal.slice (prv o) 4 (Tag.own 0)), (6, AVal.int IntKind.i64 (↑a : Int)), (24, AVal.int IntKind.i64 (↑n : Int)), (25, AVal.int IntKind.i64 (↑i : Int)), (26, AVal.bool (hold (decide ((↑i : Int) < (↑n : Int)))))] [] [] (Sto.pushOwn Sto.empty (List.length (prv o)))))) := by kernel_rfl
noncomputable def takeF_S (o : List Pr) (a : Nat) : St := St.mk 104 [(5, .slice (prv o) 4 (.own 0)), (6, .int .i64 (a : Int))] [] [] (Sto.pushOwn Sto.empty (prv o).length)
noncomputable abbrev takeF_C : Code := code_22_1_1_1_1_1
theorem takeF_r (o : List Pr) (a : Nat) (Q : AVal → Sto → Prop) : vc Try.prog cTake code_22_1_1_1_1_1 (endK Try.prog Try.f22.results.toList Q) (St.mk 104 [(5, .slice (prv o) 4 (.own 0)), (6, .int .i64 (a : Int))] [] [] (Sto.pushOwn Sto.empty (prv o).length)) =
  (Q (AVal.tuple [AVal.slice (prv o) 4 (Tag.own 0), AVal.int IntKind.i64 (↑a : Int), AVal.int IntKind.i64 (0 : Int)]) (Sto.pushOwn Sto.empty (List.length (prv o)))) := by kernel_rfl
theorem takeR_r (b : Txt) (Q : AVal → Sto → Prop) : vc Try.prog cTakeR code_23_ (endK Try.prog Try.f23.results.toList Q) (St.start Try.f23.ntmps [.slice (bw b) 1 .ro] (Sto.empty)) =
  (brV (hold ((↑(List.length (bw b)) : Int) == (0 : Int))) true (Q (AVal.tuple [AVal.slice [] 0 Tag.nil, AVal.int IntKind.i64 (0 : Int), AVal.int IntKind.i64 (20 : Int)]) Sto.empty) (gb (decide ((0 : Int) ≤ (0 : Int) ∧ (0 : Int) < (↑(List.length (bw b)) : Int))) (gb (decide (1 ≤ List.length (elemAt (bw b) (0 : Int)) ∧ 0 < 1) && etaOk (Sh.int IntKind.u8) (List.getD (elemAt (bw b) (0 : Int)) 0 AVal.undef)) (brV (hold (decide ((16 : Int) < IntKind.wrap IntKind.i64 (AVal.intOf (List.getD (elemAt (bw b) (0 : Int)) 0 AVal.undef))))) true (Q (AVal.tuple [AVal.slice [] 0 Tag.nil, AVal.int IntKind.i64 (0 : Int), AVal.int IntKind.i64 (10 : Int)]) Sto.empty) (loopV (fun s => St.norm [(6, 4)] [0, 5, 6, 7, 8] [] s) (vc Try.prog cTakeR code_23_1_1_1_1_1_1_0_1_0_0) (blockK 0 (thenK (fun s => cutV (vc Try.prog cTakeR code_23_1_1_1_1_1_1_1 (endK Try.prog (Array.toList (Go.Func.results Try.f23)) Q)) (St.norm [(6, 4)] [6, 7] [] s)) (endK Try.prog (Array.toList (Go.Func.results Try.f23)) Q))) (St.mk 100 [(0, AVal.slice (bw b) 1 Tag.ro), (5, AVal.int IntKind.i64 (IntKind.wrap IntKind.i64 (AVal.intOf (List.getD (elemAt (bw b) (0 : Int)) 0 AVal.undef)))), (6, AVal.slice [] 4 (Tag.own 0)), (7, AVal.int IntKind.i64 (1 : Int)), (8, AVal.int IntKind.i64 (0 : Int))] [] [] (Sto.pushOwn Sto.empty 0))))))) := by kernel_rfl
theorem takeR_i (b : Txt) (Q : AVal → Sto → Prop) (ho : OrcOk Try.prog cTakeR) (h : brV (hold ((↑(List.length (bw b)) : Int) == (0 : Int))) true (Q (AVal.tuple [AVal.slice [] 0 Tag.nil, AVal.int IntKind.i64 (0 : Int), AVal.int IntKind.i64 (20 : Int)]) Sto.empty) (gb (decide ((0 : Int) ≤ (0 : Int) ∧ (0 : Int) < (↑(List.length (bw b)) : Int))) (gb (decide (1 ≤ List.length (elemAt (bw b) (0 : Int)) ∧ 0 < 1) && etaOk (Sh.int IntKind.u8) (List.getD (elemAt (bw b) (0 : Int)) 0 AVal.undef)) (brV (hold (decide ((16 : Int) < IntKind.wrap IntKind.i64 (AVal.intOf (List.getD (elemAt (bw b) (0 : Int)) 0 AVal.undef))))) true (Q (AVal.tuple [AVal.slice [] 0 Tag.nil, AVal.int IntKind.i64 (0 : Int), AVal.int IntKind.i64 (10 : Int)]) Sto.empty) (loopV (fun s => St.norm [(6, 4)] [0, 5, 6, 7, 8] [] s) (vc Try.prog cTakeR code_23_1_1_1_1_1_1_0_1_0_0) (blockK 0 (thenK (fun s => cutV (vc Try.prog cTakeR code_23_1_1_1_1_1_1_1 (endK Try.prog (Array.toList (Go.Func.results Try.f23)) Q)) (St.norm [(6, 4)] [6, 7] [] s)) (endK Try.prog (Array.toList (Go.Func.results Try.f23)) Q))) (St.mk 100 [(0, AVal.slice (bw b) 1 Tag.ro), (5, AVal.int IntKind.i64 (IntKind.wrap IntKind.i64 (AVal.intOf (List.getD (elemAt (bw b) (0 : Int)) 0 AVal.undef)))), (6, AVal.slice [] 4 (Tag.own 0)), (7, AVal.int IntKind.i64 (1 : Int)), (8, AVal.int IntKind.i64 (0 : Int))] [] [] (Sto.pushOwn Sto.empty 0))))))) : ACall Try.prog 23 [.slice (bw b) 1 .ro] (Sto.empty) Q :=
  ACall.intro hmix Try.func23 (c := code_23_) (by kernel_rfl) cTakeR ho (Nat.le_of_ble_eq_true (by kernel_rfl)) (by rw [takeR_r]; exact h)
noncomputable def takeRL_S (b : Txt) (o : List Pr) (n a i : Nat) : St := St.mk 100 [(0, .slice (bw b) 1 .ro), (5, .int .i64 (n : Int)), (6, .slice (prv o) 4 (.own 0)), (7, .int .i64 (a : Int)), (8, .int .i64 (i : Int))] [] [] (Sto.pushOwn Sto.empty (prv o).length)
noncomputable abbrev takeRL_C : Code := code_23_1_1_1_1_1_1_0_1_0_0
theorem takeRL_r (b : Txt) (o : List Pr) (n a i : Nat) (L : St → Prop) (K : Exit → St → Prop) : vc Try.prog cTakeR code_23_1_1_1_1_1_1_0_1_0_0 (thenK (fun s => L (St.norm [(6, 4)] [0, 5, 6, 7, 8] [] s)) K) (St.mk 100 [(0, .slice (bw b) 1 .ro), (5, .int .i64 (n : Int)), (6, .slice (prv o) 4 (.own 0)), (7, .int .i64 (a : Int)), (8, .int .i64 (i : Int))] [] [] (Sto.pushOwn Sto.empty (prv o).length)) =
  (brV (hold (decide ((↑i : Int) < (↑n : Int)))) true (brV (hold (decide ((↑(List.length (bw b)) : Int) ≤ (↑a : Int)))) true (K Exit.ret (St.mk 100 [(0, AVal.slice (bw b) 1 Tag.ro), (5, AVal.int IntKind.i64 (↑n : Int)), (6, AVal.slice (prv o) 4 (Tag.own 0)), (7, AVal.int IntKind.i64 (↑a : Int)), (8, AVal.int IntKind.i64 (↑i : Int)), (25, AVal.bool (hold (decide ((↑i : Int) < (↑n : Int))))), (31, AVal.bool (hold (decide ((↑(List.length (bw b)) : Int) ≤ (↑a : Int))))), (2, AVal.slice [] 0 Tag.nil), (3, AVal.int IntKind.i64 (0 : Int)), (4, AVal.int IntKind.i64 (20 : Int))] [] [] (Sto.pushOwn Sto.empty (List.length (prv o))))) (gb (decide ((0 : Int) ≤ (↑a : Int) ∧ (↑a : Int) < (↑(List.length (bw b)) : Int))) (gb (decide (1 ≤ List.length (elemAt (bw b) (↑a : Int)) ∧ 0 < 1) && etaOk (Sh.int IntKind.u8) (List.getD (elemAt (bw b) (↑a : Int)) 0 AVal.undef)) (∀ (m : Int), m = IntKind.wrap IntKind.i64 (AVal.intOf (List.getD (elemAt (bw b) (↑a : Int)) 0 AVal.undef)) → brV (hold (decide ((↑(List.length (bw b)) : Int) < IntKind.wrap IntKind.i64 (IntKind.wrap IntKind.i64 ((↑a : Int) + (1 : Int)) + m)))) true (K Exit.ret (St.mk 100 [(0, AVal.slice (bw b) 1 Tag.ro), (5, AVal.int IntKind.i64 (↑n : Int)), (6, AVal.slice (prv o) 4 (Tag.own 0)), (7, AVal.int IntKind.i64 (↑a : Int)), (8, AVal.int IntKind.i64 (↑i : Int)), (25, AVal.bool (hold (decide ((↑i : Int) < (↑n : Int))))), (31, AVal.bool (hold (decide ((↑(List.length (bw b)) : Int) ≤ (↑a : Int))))), (9, AVal.int IntKind.i64 m), (43, AVal.bool (hold (decide ((↑(List.length (bw b)) : Int) < IntKind.wrap IntKind.i64 (IntKind.wrap IntKind.i64 ((↑a : Int) + (1 : Int)) + m))))), (2, AVal.slice [] 0 Tag.nil), (3, AVal.int IntKind.i64 (0 : Int)), (4, AVal.int IntKind.i64 (20 : Int))] [] [] (Sto.pushOwn Sto.empty (List.length (prv o))))) (gb (decide ((0 : Int) ≤ IntKind.wrap IntKind.i64 ((↑a : Int) + (1 : Int)) ∧ IntKind.wrap IntKind.i64 ((↑a : Int) + (1 : Int)) ≤ IntKind.wrap IntKind.i64 (IntKind.wrap IntKind.i64 ((↑a : Int) + (1 : Int)) + m) ∧ IntKind.wrap IntKind.i64 (IntKind.wrap IntKind.i64 ((↑a : Int) + (1 : Int)) + m) ≤ (↑(List.length (bw b)) : Int))) (gb (decide (List.all (List.take (Int.toNat (IntKind.wrap IntKind.i64 (IntKind.wrap IntKind.i64 ((↑a : Int) + (1 : Int)) + m)) - Int.toNat (IntKind.wrap IntKind.i64 ((↑a : Int) + (1 : Int)))) (List.drop (Int.toNat (IntKind.wrap IntKind.i64 ((↑a : Int) + (1 : Int)))) (bw b))) isU8 = true)) (gb (Go.Proofs.Ytbghpjamahgegaa.Lt.lenT (List.map AL.byteOf (List.take (Int.toNat (IntKind.wrap IntKind.i64 (IntKind.wrap IntKind.i64 ((↑a : Int) + (1 : Int)) + m)) - Int.toNat (IntKind.wrap IntKind.i64 ((↑a : Int) + (1 : Int)))) (List.drop (Int.toNat (IntKind.wrap IntKind.i64 ((↑a : Int) + (1 : Int)))) (bw b))))) (brV (!hold (nameT (List.map AL.byteOf (List.take (Int.toNat (IntKind.wrap IntKind.i64 (IntKind.wrap IntKind.i64 ((↑a : Int) + (1 : Int)) + m)) - Int.toNat (IntKind.wrap IntKind.i64 ((↑a : Int) + (1 : Int)))) (List.drop (Int.toNat (IntKind.wrap IntKind.i64 ((↑a : Int) + (1 : Int)))) (bw b)))))) false (brV (hold (decide ((0 : Int) < (↑i : Int)))) true (gb (decide ((0 : Int) ≤ IntKind.wrap IntKind.i64 ((↑i : Int) - (1 : Int)) ∧ IntKind.wrap IntKind.i64 ((↑i : Int) - (1 : Int)) < (↑(List.length (prv o)) : Int))) (gb (decide (1 ≤ List.length (List.drop 0 (elemAt (prv o) (IntKind.wrap IntKind.i64 ((↑i : Int) - (1 : Int))))) ∧ 0 < 1) && etaOk Sh.str (List.getD (List.drop 0 (elemAt (prv o) (IntKind.wrap IntKind.i64 ((↑i : Int) - (1 : Int))))) 0 AVal.undef)) (∀ (y : Int), y = cmpR (runeL (AVal.strOf (List.getD (List.drop 0 (elemAt (prv o) (IntKind.wrap IntKind.i64 ((↑i : Int) - (1 : Int))))) 0 AVal.undef))) (runeL (List.map AL.byteOf (List.take (Int.toNat (IntKind.wrap IntKind.i64 (IntKind.wrap IntKind.i64 ((↑a : Int) + (1 : Int)) + m)) - Int.toNat (IntKind.wrap IntKind.i64 ((↑a : Int) + (1 : Int)))) (List.drop (Int.toNat (IntKind.wrap IntKind.i64 ((↑a : Int) + (1 : Int)))) (bw b))))) → gb (Go.Proofs.Ytbghpjamahgegaa.Lt.lenT (AVal.strOf (List.getD (List.drop 0 (elemAt (prv o) (IntKind.wrap IntKind.i64 ((↑i : Int) - (1 : Int))))) 0 AVal.undef)) && Go.Proofs.Ytbghpjamahgegaa.Lt.lenT (List.map AL.byteOf (List.take (Int.toNat (IntKind.wrap IntKind.i64 (IntKind.wrap IntKind.i64 ((↑a : Int) + (1 : Int)) + m)) - Int.toNat (IntKind.wrap IntKind.i64 ((↑a : Int) + (1 : Int)))) (List.drop (Int.toNat (IntKind.wrap IntKind.i64 ((↑a : Int) + (1 : Int)))) (bw b))))) (brV (hold (decide ((0 : Int) ≤ y))) true (K Exit.ret (St.mk 100 [(0, AVal.slice (bw b) 1 Tag.ro), (5, AVal.int IntKind.i64 (↑n : Int)), (6, AVal.slice (prv o) 4 (Tag.own 0)), (7, AVal.int IntKind.i64 (↑a : Int)), (8, AVal.int IntKind.i64 (↑i : Int)), (25, AVal.bool (hold (decide ((↑i : Int) < (↑n : Int))))), (31, AVal.bool (hold (decide ((↑(List.length (bw b)) : Int) ≤ (↑a : Int))))), (9, AVal.int IntKind.i64 m), (43, AVal.bool (hold (decide ((↑(List.length (bw b)) : Int) < IntKind.wrap IntKind.i64 (IntKind.wrap IntKind.i64 ((↑a : Int) + (1 : Int)) + m))))), (10, AVal.ptr (Oid.loc 10) 0), (73, AVal.bool (hold (decide ((0 : Int) ≤ y)))), (2, AVal.slice [] 0 Tag.nil), (3, AVal.int IntKind.i64 (0 : Int)), (4, AVal.int IntKind.i64 (30 : Int))] [] [(10, AObj.cells [AVal.str (List.map AL.byteOf (List.take (Int.toNat (IntKind.wrap IntKind.i64 (IntKind.wrap IntKind.i64 ((↑a : Int) + (1 : Int)) + m)) - Int.toNat (IntKind.wrap IntKind.i64 ((↑a : Int) + (1 : Int)))) (List.drop (Int.toNat (IntKind.wrap IntKind.i64 ((↑a : Int) + (1 : Int)))) (bw b)))), AVal.int IntKind.i64 (0 : Int), AVal.int IntKind.i64 (0 : Int), AVal.str []])] (Sto.pushOwn Sto.empty (List.length (prv o))))) (gb (decide ((0 : Int) ≤ IntKind.wrap IntKind.i64 (IntKind.wrap IntKind.i64 ((↑a : Int) + (1 : Int)) + m) ∧ IntKind.wrap IntKind.i64 (IntKind.wrap IntKind.i64 ((↑a : Int) + (1 : Int)) + m) ≤ (↑(List.length (bw b)) : Int) ∧ (↑(List.length (bw b)) : Int) ≤ (↑(List.length (bw b)) : Int))) (∀ (y_1 : Vl × Nat × Int), y_1 = takeV (List.map AL.byteOf (List.take (Int.toNat (↑(List.length (bw b)) : Int) - Int.toNat (IntKind.wrap IntKind.i64 (IntKind.wrap IntKind.i64 ((↑a : Int) + (1 : Int)) + m))) (List.drop (Int.toNat (IntKind.wrap IntKind.i64 (IntKind.wrap IntKind.i64 ((↑a : Int) + (1 : Int)) + m))) (bw b)))) → gb (List.all (List.take (Int.toNat (↑(List.length (bw b)) : Int) - Int.toNat (IntKind.wrap IntKind.i64 (IntKind.wrap IntKind.i64 ((↑a : Int) + (1 : Int)) + m))) (List.drop (Int.toNat (IntKind.wrap IntKind.i64 (IntKind.wrap IntKind.i64 ((↑a : Int) + (1 : Int)) + m))) (bw b))) byteIs && hold (decide (List.length (List.take (Int.toNat (↑(List.length (bw b)) : Int) - Int.toNat (IntKind.wrap IntKind.i64 (IntKind.wrap IntKind.i64 ((↑a : Int) + (1 : Int)) + m))) (List.drop (Int.toNat (IntKind.wrap IntKind.i64 (IntKind.wrap IntKind.i64 ((↑a : Int) + (1 : Int)) + m))) (bw b))) ≤ 1000000))) (brV (hold (Prod.snd (Prod.snd y_1) != (0 : Int))) true (K Exit.ret (St.mk 100 [(0, AVal.slice (bw b) 1 Tag.ro), (5, AVal.int IntKind.i64 (↑n : Int)), (6, AVal.slice (prv o) 4 (Tag.own 0)), (7, AVal.int IntKind.i64 (IntKind.wrap IntKind.i64 (IntKind.wrap IntKind.i64 ((↑a : Int) + (1 : Int)) + m))), (8, AVal.int IntKind.i64 (↑i : Int)), (25, AVal.bool (hold (decide ((↑i : Int) < (↑n : Int))))), (31, AVal.bool (hold (decide ((↑(List.length (bw b)) : Int) ≤ (↑a : Int))))), (9, AVal.int IntKind.i64 m), (43, AVal.bool (hold (decide ((↑(List.length (bw b)) : Int) < IntKind.wrap IntKind.i64 (IntKind.wrap IntKind.i64 ((↑a : Int) + (1 : Int)) + m))))), (10, AVal.ptr (Oid.loc 10) 0), (73, AVal.bool (hold (decide ((0 : Int) ≤ y)))), (11, AVal.ptr (Oid.loc 11) 0), (12, AVal.int IntKind.i64 (↑(Prod.fst (Prod.snd y_1)) : Int)), (13, AVal.int IntKind.i64 (Prod.snd (Prod.snd y_1))), (87, AVal.bool (hold (Prod.snd (Prod.snd y_1) != (0 : Int)))), (2, AVal.slice [] 0 Tag.nil), (3, AVal.int IntKind.i64 (0 : Int)), (4, AVal.int IntKind.i64 (Prod.snd (Prod.snd y_1)))] [] [(10, AObj.cells [AVal.str (List.map AL.byteOf (List.take (Int.toNat (IntKind.wrap IntKind.i64 (IntKind.wrap IntKind.i64 ((↑a : Int) + (1 : Int)) + m)) - Int.toNat (IntKind.wrap IntKind.i64 ((↑a : Int) + (1 : Int)))) (List.drop (Int.toNat (IntKind.wrap IntKind.i64 ((↑a : Int) + (1 : Int)))) (bw b)))), AVal.int IntKind.i64 (0 : Int), AVal.int IntKind.i64 (0 : Int), AVal.str []]), (11, AObj.cells [AVal.int IntKind.i64 (Vl.k (Prod.fst y_1)), AVal.int IntKind.i64 (Vl.n (Prod.fst y_1)), AVal.str (Vl.s (Prod.fst y_1))])] (Sto.pushOwn Sto.empty (List.length (prv o))))) (gb (decide (decide (true = true ∧ some (List.length (prv o)) = some (List.length (prv o)) ∧ (List.length (prv o) + 1) * 48 ≤ 140737488355328 ∧ List.length (prv o) + 1 ≤ 9223372036854775807) = true ∧ true = true)) (L (St.mk 100 [(0, AVal.slice (bw b) 1 Tag.ro), (5, AVal.int IntKind.i64 (↑n : Int)), (6, AVal.slice (prv o ++ [AVal.agg [AVal.str (List.map AL.byteOf (List.take (Int.toNat (IntKind.wrap IntKind.i64 (IntKind.wrap IntKind.i64 ((↑a : Int) + (1 : Int)) + m)) - Int.toNat (IntKind.wrap IntKind.i64 ((↑a : Int) + (1 : Int)))) (List.drop (Int.toNat (IntKind.wrap IntKind.i64 ((↑a : Int) + (1 : Int)))) (bw b)))), AVal.int IntKind.i64 (Vl.k (Prod.fst y_1)), AVal.int IntKind.i64 (Vl.n (Prod.fst y_1)), AVal.str (Vl.s (Prod.fst y_1))]]) 4 (Tag.own 0)), (7, AVal.int IntKind.i64 (IntKind.wrap IntKind.i64 (IntKind.wrap IntKind.i64 (IntKind.wrap IntKind.i64 ((↑a : Int) + (1 : Int)) + m) + (↑(Prod.fst (Prod.snd y_1)) : Int)))), (8, AVal.int IntKind.i64 (IntKind.wrap IntKind.i64 ((↑i : Int) + (1 : Int))))] [] [] (Sto.setOwn (Sto.pushOwn Sto.empty (List.length (prv o))) 0 (List.length (prv o) + 1)))))))))))) (gb (decide ((0 : Int) ≤ IntKind.wrap IntKind.i64 (IntKind.wrap IntKind.i64 ((↑a : Int) + (1 : Int)) + m) ∧ IntKind.wrap IntKind.i64 (IntKind.wrap IntKind.i64 ((↑a : Int) + (1 : Int)) + m) ≤ (↑(List.length (bw b)) : Int) ∧ (↑(List.length (bw b)) : Int) ≤ (↑(List.length (bw b)) : Int))) (∀ (y : Vl × Nat × Int), y = takeV (List.map AL.byteOf (List.take (Int.toNat (↑(List.length (bw b)) : Int) - Int.toNat (IntKind.wrap IntKind.i64 (IntKind.wrap IntKind.i64 ((↑a : Int) + (1 : Int)) + m))) (List.drop (Int.toNat (IntKind.wrap IntKind.i64 (IntKind.wrap IntKind.i64 ((↑a : Int) + (1 : Int)) + m))) (bw b)))) → gb (List.all (List.take (Int.toNat (↑(List.length (bw b)) : Int) - Int.toNat (IntKind.wrap IntKind.i64 (IntKind.wrap IntKind.i64 ((↑a : Int) + (1 : Int)) + m))) (List.drop (Int.toNat (IntKind.wrap IntKind.i64 (IntKind.wrap IntKind.i64 ((↑a : Int) + (1 : Int)) + m))) (bw b))) byteIs && hold (decide (List.length (List.take (Int.toNat (↑(List.length (bw b)) : Int) - Int.toNat (IntKind.wrap IntKind.i64 (IntKind.wrap IntKind.i64 ((↑a : Int) + (1 : Int)) + m))) (List.drop (Int.toNat (IntKind.wrap IntKind.i64 (IntKind.wrap IntKind.i64 ((↑a : Int) + (1 : Int)) + m))) (bw b))) ≤ 1000000))) (brV (hold (Prod.snd (Prod.snd y) != (0 : Int))) true (K Exit.ret (St.mk 100 [(0, AVal.slice (bw b) 1 Tag.ro), (5, AVal.int IntKind.i64 (↑n : Int)), (6, AVal.slice (prv o) 4 (Tag.own 0)), (7, AVal.int IntKind.i64 (IntKind.wrap IntKind.i64 (IntKind.wrap IntKind.i64 ((↑a : Int) + (1 : Int)) + m))), (8, AVal.int IntKind.i64 (↑i : Int)), (25, AVal.bool (hold (decide ((↑i : Int) < (↑n : Int))))), (31, AVal.bool (hold (decide ((↑(List.length (bw b)) : Int) ≤ (↑a : Int))))), (9, AVal.int IntKind.i64 m), (43, AVal.bool (hold (decide ((↑(List.length (bw b)) : Int) < IntKind.wrap IntKind.i64 (IntKind.wrap IntKind.i64 ((↑a : Int) + (1 : Int)) + m))))), (10, AVal.ptr (Oid.loc 10) 0), (73, AVal.bool false), (11, AVal.ptr (Oid.loc 11) 0), (12, AVal.int IntKind.i64 (↑(Prod.fst (Prod.snd y)) : Int)), (13, AVal.int IntKind.i64 (Prod.snd (Prod.snd y))), (87, AVal.bool (hold (Prod.snd (Prod.snd y) != (0 : Int)))), (2, AVal.slice [] 0 Tag.nil), (3, AVal.int IntKind.i64 (0 : Int)), (4, AVal.int IntKind.i64 (Prod.snd (Prod.snd y)))] [] [(10, AObj.cells [AVal.str (List.map AL.byteOf (List.take (Int.toNat (IntKind.wrap IntKind.i64 (IntKind.wrap IntKind.i64 ((↑a : Int) + (1 : Int)) + m)) - Int.toNat (IntKind.wrap IntKind.i64 ((↑a : Int) + (1 : Int)))) (List.drop (Int.toNat (IntKind.wrap IntKind.i64 ((↑a : Int) + (1 : Int)))) (bw b)))), AVal.int IntKind.i64 (0 : Int), AVal.int IntKind.i64 (0 : Int), AVal.str []]), (11, AObj.cells [AVal.int IntKind.i64 (Vl.k (Prod.fst y)), AVal.int IntKind.i64 (Vl.n (Prod.fst y)), AVal.str (Vl.s (Prod.fst y))])] (Sto.pushOwn Sto.empty (List.length (prv o))))) (gb (decide (decide (true = true ∧ some (List.length (prv o)) = some (List.length (prv o)) ∧ (List.length (prv o) + 1) * 48 ≤ 140737488355328 ∧ List.length (prv o) + 1 ≤ 9223372036854775807) = true ∧ true = true)) (L (St.mk 100 [(0, AVal.slice (bw b) 1 Tag.ro), (5, AVal.int IntKind.i64 (↑n : Int)), (6, AVal.slice (prv o ++ [AVal.agg [AVal.str (List.map AL.byteOf (List.take (Int.toNat (IntKind.wrap IntKind.i64 (IntKind.wrap IntKind.i64 ((↑a : Int) + (1 : Int)) + m)) - Int.toNat (IntKind.wrap IntKind.i64 ((↑a : Int) + (1 : Int)))) (List.drop (Int.toNat (IntKind.wrap IntKind.i64 ((↑a : Int) + (1 : Int)))) (bw b)))), AVal.int IntKind.i64 (Vl.k (Prod.fst y)), AVal.int IntKind.i64 (Vl.n (Prod.fst y)), AVal.str (Vl.s (Prod.fst y))]]) 4 (Tag.own 0)), (7, AVal.int IntKind.i64 (IntKind.wrap IntKind.i64 (IntKind.wrap IntKind.i64 (IntKind.wrap IntKind.i64 ((↑a : Int) + (1 : Int)) + m) + (↑(Prod.fst (Prod.snd y)) : Int)))), (8, AVal.int IntKind.i64 (IntKind.wrap IntKind.i64 ((↑i : Int) + (1 : Int))))] [] [] (Sto.setOwn (Sto.pushOwn Sto.empty (List.length (prv o))) 0 (List.length (prv o) + 1))))))))) (K Exit.ret (St.mk 100 [(0, AVal.slice (bw b) 1 Tag.ro), (5, AVal.int IntKind.i64 (↑n : Int)), (6, AVal.slice (prv o) 4 (Tag.own 0)), (7, AVal.int IntKind.i64 (↑a : Int)), (8, AVal.int IntKind.i64 (↑i : Int)), (25, AVal.bool (hold (decide ((↑i : Int) < (↑n : Int))))), (31, AVal.bool (hold (decide ((↑(List.length (bw b)) : Int) ≤ (↑a : Int))))), (9, AVal.int IntKind.i64 m), (43, AVal.bool (hold (decide ((↑(List.length (bw b)) : Int) < IntKind.wrap IntKind.i64 (IntKind.wrap IntKind.i64 ((↑a : Int) + (1 : Int)) + m))))), (10, AVal.ptr (Oid.loc 10) 0), (73, AVal.bool true), (2, AVal.slice [] 0 Tag.nil), (3, AVal.int IntKind.i64 (0 : Int)), (4, AVal.int IntKind.i64 (30 : Int))] [] [(10, AObj.cells [AVal.str (List.map AL.byteOf (List.take (Int.toNat (IntKind.wrap IntKind.i64 (IntKind.wrap IntKind.i64 ((↑a : Int) + (1 : Int)) + m)) - Int.toNat (IntKind.wrap IntKind.i64 ((↑a : Int) + (1 : Int)))) (List.drop (Int.toNat (IntKind.wrap IntKind.i64 ((↑a : Int) + (1 : Int)))) (bw b)))), AVal.int IntKind.i64 (0 : Int), AVal.int IntKind.i64 (0 : Int), AVal.str []])] (Sto.pushOwn Sto.empty (List.length (prv o))))))))))))) (K (Exit.exit 0) (St.mk 100 [(0, AVal.slice (bw b) 1 Tag.ro), (5, AVal.int IntKind.i64 (↑n : Int)), (6, AVal.slice (prv o) 4 (Tag.own 0)), (7, AVal.int IntKind.i64 (↑a : Int)), (8, AVal.int IntKind.i64 (↑i : Int)), (25, AVal.bool (hold (decide ((↑i : Int) < (↑n : Int)))))] [] [] (Sto.pushOwn Sto.empty (List.length (prv o)))))) := by kernel_rfl
noncomputable def takeRF_S (o : List Pr) (a : Nat) : St := St.mk 100 [(6, .slice (prv o) 4 (.own 0)), (7, .int .i64 (a : Int))] [] [] (Sto.pushOwn Sto.empty (prv o).length)
noncomputable abbrev takeRF_C : Code := code_23_1_1_1_1_1_1_1
theorem takeRF_r (o : List Pr) (a : Nat) (Q : AVal → Sto → Prop) : vc Try.prog cTakeR code_23_1_1_1_1_1_1_1 (endK Try.prog Try.f23.results.toList Q) (St.mk 100 [(6, .slice (prv o) 4 (.own 0)), (7, .int .i64 (a : Int))] [] [] (Sto.pushOwn Sto.empty (prv o).length)) =
  (Q (AVal.tuple [AVal.slice (prv o) 4 (Tag.own 0), AVal.int IntKind.i64 (↑a : Int), AVal.int IntKind.i64 (0 : Int)]) (Sto.pushOwn Sto.empty (List.length (prv o)))) := by kernel_rfl
theorem takes_r (a : List Pr) (b : Txt) (Q : AVal → Sto → Prop) : vc Try.prog cTakes code_7_ (endK Try.prog Try.f7.results.toList Q) (St.start Try.f7.ntmps [.slice (prv a) 4 .ro, .slice (bw b) 1 .ro] (Sto.empty)) =
  (brV (!hold true) false (gb (List.all (prv a) isPr) (brV (!hold (smallP (List.map prOf (prv a)))) false (brV (hold (decide ((2000 : Int) < (↑(List.length (bw b)) : Int)))) true (Q (AVal.bool (hold true)) Sto.empty) (gb (decide (decide (true = true ∧ (true = true ∨ 0 < List.length (bw b)) ∧ (0 + List.length (bw b)) * 1 ≤ 140737488355328 ∧ 0 + List.length (bw b) ≤ 9223372036854775807) = true ∧ true = true)) (∀ (y : List Pr × Nat × Int), y = takeP (List.map AL.byteOf ([] ++ bw b)) → gb (Go.Proofs.Ytbghpjamahgegaa.bytsOk ([] ++ bw b) 1) (∀ (y_1 : List Pr × Nat × Int), y_1 = takeP (List.map AL.byteOf (bw b)) → gb (Go.Proofs.Ytbghpjamahgegaa.bytsOk (bw b) 1) (brV (hold (Prod.snd (Prod.snd y) != Prod.snd (Prod.snd y_1))) false (brV (hold ((↑(Prod.fst (Prod.snd y)) : Int) != (↑(Prod.fst (Prod.snd y_1)) : Int))) false (∀ (y_2 : Bool), y_2 = decide (List.map prOf (prv (Prod.fst y)) = List.map prOf (prv (Prod.fst y_1))) → gb (Go.Proofs.Ytbghpjamahgegaa.prsOk (prv (Prod.fst y)) 4 && Go.Proofs.Ytbghpjamahgegaa.prsOk (prv (Prod.fst y_1)) 4) (brV (!hold y_2) false (brV (hold (Prod.snd (Prod.snd y_1) == (0 : Int))) true (∀ (y_3 : Bool), y_3 = (incP (List.map prOf (prv (Prod.fst y))) && decide (List.length (List.map prOf (prv (Prod.fst y))) ≤ 16)) → gb (Go.Proofs.Ytbghpjamahgegaa.prsOk (prv (Prod.fst y)) 4) (brV (!hold y_3) true (Q (AVal.bool false) (Sto.pushOwn Sto.empty (0 + List.length (bw b)))) (∀ (y_4 : Bool), y_4 = (incP (List.map prOf (prv a)) && decide (List.length (List.map prOf (prv a)) ≤ 16)) → ∀ (y_5 : Txt), (y_5 = if y_4 = true then bytesP (List.map prOf (prv a)) else []) → gb (Go.Proofs.Ytbghpjamahgegaa.prsOk (prv a) 4) (∀ (y_6 : Bool), y_6 = (incP (List.map prOf (prv a)) && decide (List.length (List.map prOf (prv a)) ≤ 16)) → gb (Go.Proofs.Ytbghpjamahgegaa.prsOk (prv a) 4) (brV (!hold y_6) true (brV (hold ((if y_4 = true then (0 : Int) else (2 : Int)) == (2 : Int))) true (Q (AVal.bool (hold ((↑(List.length (bw y_5)) : Int) == (0 : Int)))) (Sto.pushOwn Sto.empty (0 + List.length (bw b)))) (Q (AVal.bool false) (Sto.pushOwn Sto.empty (0 + List.length (bw b))))) (brV (hold ((if y_4 = true then (0 : Int) else (2 : Int)) != (0 : Int))) false (gb (decide (List.all (bw y_5) isU8 = true)) (∀ (y_7 : Txt), y_7 = bytesP (List.map prOf (prv a)) → gb (Go.Proofs.Ytbghpjamahgegaa.prsOk (prv a) 4 && hold (incP (List.map prOf (prv a)) && decide (List.length (List.map prOf (prv a)) ≤ 16))) (gb (decide (List.all (bw y_7) isU8 = true)) (brV (hold !List.map AL.byteOf (bw y_5) == List.map AL.byteOf (bw y_7)) true (Q (AVal.bool false) (Sto.pushOwn Sto.empty (0 + List.length (bw b)))) (gb (decide (decide (true = true ∧ (true = true ∨ 0 < List.length (bw y_5)) ∧ (0 + List.length (bw y_5)) * 1 ≤ 140737488355328 ∧ 0 + List.length (bw y_5) ≤ 9223372036854775807) = true ∧ true = true)) (gb (decide (decide (true = true ∧ some (0 + List.length (bw y_5)) = some (List.length ([] ++ bw y_5)) ∧ (List.length ([] ++ bw y_5) + List.length (bw b)) * 1 ≤ 140737488355328 ∧ List.length ([] ++ bw y_5) + List.length (bw b) ≤ 9223372036854775807) = true ∧ true = true)) (∀ (y : List Pr × Nat × Int), y = takeP (List.map AL.byteOf ([] ++ bw y_5 ++ bw b)) → gb (Go.Proofs.Ytbghpjamahgegaa.bytsOk ([] ++ bw y_5 ++ bw b) 1) (brV (hold (Prod.snd (Prod.snd y) == (0 : Int))) true (brV (hold ((↑(Prod.fst (Prod.snd y)) : Int) == (↑(List.length (bw y_5)) : Int))) true (∀ (y_8 : Bool), y_8 = decide (List.map prOf (prv (Prod.fst y)) = List.map prOf (prv a)) → gb (Go.Proofs.Ytbghpjamahgegaa.prsOk (prv (Prod.fst y)) 4 && Go.Proofs.Ytbghpjamahgegaa.prsOk (prv a) 4) (Q (AVal.bool (hold y_8)) (Sto.setOwn (Sto.pushOwn (Sto.pushOwn Sto.empty (0 + List.length (bw b))) (0 + List.length (bw y_5))) 1 (List.length ([] ++ bw y_5) + List.length (bw b))))) (Q (AVal.bool false) (Sto.setOwn (Sto.pushOwn (Sto.pushOwn Sto.empty (0 + List.length (bw b))) (0 + List.length (bw y_5))) 1 (List.length ([] ++ bw y_5) + List.length (bw b))))) (Q (AVal.bool false) (Sto.setOwn (Sto.pushOwn (Sto.pushOwn Sto.empty (0 + List.length (bw b))) (0 + List.length (bw y_5))) 1 (List.length ([] ++ bw y_5) + List.length (bw b)))))))))))) (Q (AVal.bool false) (Sto.pushOwn Sto.empty (0 + List.length (bw b)))))))))) (∀ (y_3 : Bool), y_3 = (incP (List.map prOf (prv a)) && decide (List.length (List.map prOf (prv a)) ≤ 16)) → ∀ (y_4 : Txt), (y_4 = if y_3 = true then bytesP (List.map prOf (prv a)) else []) → gb (Go.Proofs.Ytbghpjamahgegaa.prsOk (prv a) 4) (∀ (y_5 : Bool), y_5 = (incP (List.map prOf (prv a)) && decide (List.length (List.map prOf (prv a)) ≤ 16)) → gb (Go.Proofs.Ytbghpjamahgegaa.prsOk (prv a) 4) (brV (!hold y_5) true (brV (hold ((if y_3 = true then (0 : Int) else (2 : Int)) == (2 : Int))) true (Q (AVal.bool (hold ((↑(List.length (bw y_4)) : Int) == (0 : Int)))) (Sto.pushOwn Sto.empty (0 + List.length (bw b)))) (Q (AVal.bool false) (Sto.pushOwn Sto.empty (0 + List.length (bw b))))) (brV (hold ((if y_3 = true then (0 : Int) else (2 : Int)) != (0 : Int))) false (gb (decide (List.all (bw y_4) isU8 = true)) (∀ (y_6 : Txt), y_6 = bytesP (List.map prOf (prv a)) → gb (Go.Proofs.Ytbghpjamahgegaa.prsOk (prv a) 4 && hold (incP (List.map prOf (prv a)) && decide (List.length (List.map prOf (prv a)) ≤ 16))) (gb (decide (List.all (bw y_6) isU8 = true)) (brV (hold !List.map AL.byteOf (bw y_4) == List.map AL.byteOf (bw y_6)) true (Q (AVal.bool false) (Sto.pushOwn Sto.empty (0 + List.length (bw b)))) (gb (decide (decide (true = true ∧ (true = true ∨ 0 < List.length (bw y_4)) ∧ (0 + List.length (bw y_4)) * 1 ≤ 140737488355328 ∧ 0 + List.length (bw y_4) ≤ 9223372036854775807) = true ∧ true = true)) (gb (decide (decide (true = true ∧ some (0 + List.length (bw y_4)) = some (List.length ([] ++ bw y_4)) ∧ (List.length ([] ++ bw y_4) + List.length (bw b)) * 1 ≤ 140737488355328 ∧ List.length ([] ++ bw y_4) + List.length (bw b) ≤ 9223372036854775807) = true ∧ true = true)) (∀ (y : List Pr × Nat × Int), y = takeP (List.map AL.byteOf ([] ++ bw y_4 ++ bw b)) → gb (Go.Proofs.Ytbghpjamahgegaa.bytsOk ([] ++ bw y_4 ++ bw b) 1) (brV (hold (Prod.snd (Prod.snd y) == (0 : Int))) true (brV (hold ((↑(Prod.fst (Prod.snd y)) : Int) == (↑(List.length (bw y_4)) : Int))) true (∀ (y_7 : Bool), y_7 = decide (List.map prOf (prv (Prod.fst y)) = List.map prOf (prv a)) → gb (Go.Proofs.Ytbghpjamahgegaa.prsOk (prv (Prod.fst y)) 4 && Go.Proofs.Ytbghpjamahgegaa.prsOk (prv a) 4) (Q (AVal.bool (hold y_7)) (Sto.setOwn (Sto.pushOwn (Sto.pushOwn Sto.empty (0 + List.length (bw b))) (0 + List.length (bw y_4))) 1 (List.length ([] ++ bw y_4) + List.length (bw b))))) (Q (AVal.bool false) (Sto.setOwn (Sto.pushOwn (Sto.pushOwn Sto.empty (0 + List.length (bw b))) (0 + List.length (bw y_4))) 1 (List.length ([] ++ bw y_4) + List.length (bw b))))) (Q (AVal.bool false) (Sto.setOwn (Sto.pushOwn (Sto.pushOwn Sto.empty (0 + List.length (bw b))) (0 + List.length (bw y_4))) 1 (List.length ([] ++ bw y_4) + List.length (bw b)))))))))))) (Q (AVal.bool false) (Sto.pushOwn Sto.empty (0 + List.length (bw b))))))))) (Q (AVal.bool false) (Sto.pushOwn Sto.empty (0 + List.length (bw b)))))) (Q (AVal.bool false) (Sto.pushOwn Sto.empty (0 + List.length (bw b))))) (Q (AVal.bool false) (Sto.pushOwn Sto.empty (0 + List.length (bw b))))))))) (Q (AVal.bool (hold true)) Sto.empty))) (Q (AVal.bool (hold true)) Sto.empty)) := by kernel_rfl
theorem takes_i (a : List Pr) (b : Txt) (Q : AVal → Sto → Prop) (ho : OrcOk Try.prog cTakes) (h : brV (!hold true) false (gb (List.all (prv a) isPr) (brV (!hold (smallP (List.map prOf (prv a)))) false (brV (hold (decide ((2000 : Int) < (↑(List.length (bw b)) : Int)))) true (Q (AVal.bool (hold true)) Sto.empty) (gb (decide (decide (true = true ∧ (true = true ∨ 0 < List.length (bw b)) ∧ (0 + List.length (bw b)) * 1 ≤ 140737488355328 ∧ 0 + List.length (bw b) ≤ 9223372036854775807) = true ∧ true = true)) (∀ (y : List Pr × Nat × Int), y = takeP (List.map AL.byteOf ([] ++ bw b)) → gb (Go.Proofs.Ytbghpjamahgegaa.bytsOk ([] ++ bw b) 1) (∀ (y_1 : List Pr × Nat × Int), y_1 = takeP (List.map AL.byteOf (bw b)) → gb (Go.Proofs.Ytbghpjamahgegaa.bytsOk (bw b) 1) (brV (hold (Prod.snd (Prod.snd y) != Prod.snd (Prod.snd y_1))) false (brV (hold ((↑(Prod.fst (Prod.snd y)) : Int) != (↑(Prod.fst (Prod.snd y_1)) : Int))) false (∀ (y_2 : Bool), y_2 = decide (List.map prOf (prv (Prod.fst y)) = List.map prOf (prv (Prod.fst y_1))) → gb (Go.Proofs.Ytbghpjamahgegaa.prsOk (prv (Prod.fst y)) 4 && Go.Proofs.Ytbghpjamahgegaa.prsOk (prv (Prod.fst y_1)) 4) (brV (!hold y_2) false (brV (hold (Prod.snd (Prod.snd y_1) == (0 : Int))) true (∀ (y_3 : Bool), y_3 = (incP (List.map prOf (prv (Prod.fst y))) && decide (List.length (List.map prOf (prv (Prod.fst y))) ≤ 16)) → gb (Go.Proofs.Ytbghpjamahgegaa.prsOk (prv (Prod.fst y)) 4) (brV (!hold y_3) true (Q (AVal.bool false) (Sto.pushOwn Sto.empty (0 + List.length (bw b)))) (∀ (y_4 : Bool), y_4 = (incP (List.map prOf (prv a)) && decide (List.length (List.map prOf (prv a)) ≤ 16)) → ∀ (y_5 : Txt), (y_5 = if y_4 = true then bytesP (List.map prOf (prv a)) else []) → gb (Go.Proofs.Ytbghpjamahgegaa.prsOk (prv a) 4) (∀ (y_6 : Bool), y_6 = (incP (List.map prOf (prv a)) && decide (List.length (List.map prOf (prv a)) ≤ 16)) → gb (Go.Proofs.Ytbghpjamahgegaa.prsOk (prv a) 4) (brV (!hold y_6) true (brV (hold ((if y_4 = true then (0 : Int) else (2 : Int)) == (2 : Int))) true (Q (AVal.bool (hold ((↑(List.length (bw y_5)) : Int) == (0 : Int)))) (Sto.pushOwn Sto.empty (0 + List.length (bw b)))) (Q (AVal.bool false) (Sto.pushOwn Sto.empty (0 + List.length (bw b))))) (brV (hold ((if y_4 = true then (0 : Int) else (2 : Int)) != (0 : Int))) false (gb (decide (List.all (bw y_5) isU8 = true)) (∀ (y_7 : Txt), y_7 = bytesP (List.map prOf (prv a)) → gb (Go.Proofs.Ytbghpjamahgegaa.prsOk (prv a) 4 && hold (incP (List.map prOf (prv a)) && decide (List.length (List.map prOf (prv a)) ≤ 16))) (gb (decide (List.all (bw y_7) isU8 = true)) (brV (hold !List.map AL.byteOf (bw y_5) == List.map AL.byteOf (bw y_7)) true (Q (AVal.bool false) (Sto.pushOwn Sto.empty (0 + List.length (bw b)))) (gb (decide (decide (true = true ∧ (true = true ∨ 0 < List.length (bw y_5)) ∧ (0 + List.length (bw y_5)) * 1 ≤ 140737488355328 ∧ 0 + List.length (bw y_5) ≤ 9223372036854775807) = true ∧ true = true)) (gb (decide (decide (true = true ∧ some (0 + List.length (bw y_5)) = some (List.length ([] ++ bw y_5)) ∧ (List.length ([] ++ bw y_5) + List.length (bw b)) * 1 ≤ 140737488355328 ∧ List.length ([] ++ bw y_5) + List.length (bw b) ≤ 9223372036854775807) = true ∧ true = true)) (∀ (y : List Pr × Nat × Int), y = takeP (List.map AL.byteOf ([] ++ bw y_5 ++ bw b)) → gb (Go.Proofs.Ytbghpjamahgegaa.bytsOk ([] ++ bw y_5 ++ bw b) 1) (brV (hold (Prod.snd (Prod.snd y) == (0 : Int))) true (brV (hold ((↑(Prod.fst (Prod.snd y)) : Int) == (↑(List.length (bw y_5)) : Int))) true (∀ (y_8 : Bool), y_8 = decide (List.map prOf (prv (Prod.fst y)) = List.map prOf (prv a)) → gb (Go.Proofs.Ytbghpjamahgegaa.prsOk (prv (Prod.fst y)) 4 && Go.Proofs.Ytbghpjamahgegaa.prsOk (prv a) 4) (Q (AVal.bool (hold y_8)) (Sto.setOwn (Sto.pushOwn (Sto.pushOwn Sto.empty (0 + List.length (bw b))) (0 + List.length (bw y_5))) 1 (List.length ([] ++ bw y_5) + List.length (bw b))))) (Q (AVal.bool false) (Sto.setOwn (Sto.pushOwn (Sto.pushOwn Sto.empty (0 + List.length (bw b))) (0 + List.length (bw y_5))) 1 (List.length ([] ++ bw y_5) + List.length (bw b))))) (Q (AVal.bool false) (Sto.setOwn (Sto.pushOwn (Sto.pushOwn Sto.empty (0 + List.length (bw b))) (0 + List.length (bw y_5))) 1 (List.length ([] ++ bw y_5) + List.length (bw b)))))))))))) (Q (AVal.bool false) (Sto.pushOwn Sto.empty (0 + List.length (bw b)))))))))) (∀ (y_3 : Bool), y_3 = (incP (List.map prOf (prv a)) && decide (List.length (List.map prOf (prv a)) ≤ 16)) → ∀ (y_4 : Txt), (y_4 = if y_3 = true then bytesP (List.map prOf (prv a)) else []) → gb (Go.Proofs.Ytbghpjamahgegaa.prsOk (prv a) 4) (∀ (y_5 : Bool), y_5 = (incP (List.map prOf (prv a)) && decide (List.length (List.map prOf (prv a)) ≤ 16)) → gb (Go.Proofs.Ytbghpjamahgegaa.prsOk (prv a) 4) (brV (!hold y_5) true (brV (hold ((if y_3 = true then (0 : Int) else (2 : Int)) == (2 : Int))) true (Q (AVal.bool (hold ((↑(List.length (bw y_4)) : Int) == (0 : Int)))) (Sto.pushOwn Sto.empty (0 + List.length (bw b)))) (Q (AVal.bool false) (Sto.pushOwn Sto.empty (0 + List.length (bw b))))) (brV (hold ((if y_3 = true then (0 : Int) else (2 : Int)) != (0 : Int))) false (gb (decide (List.all (bw y_4) isU8 = true)) (∀ (y_6 : Txt), y_6 = bytesP (List.map prOf (prv a)) → gb (Go.Proofs.Ytbghpjamahgegaa.prsOk (prv a) 4 && hold (incP (List.map prOf (prv a)) && decide (List.length (List.map prOf (prv a)) ≤ 16))) (gb (decide (List.all (bw y_6) isU8 = true)) (brV (hold !List.map AL.byteOf (bw y_4) == List.map AL.byteOf (bw y_6)) true (Q (AVal.bool false) (Sto.pushOwn Sto.empty (0 + List.length (bw b)))) (gb (decide (decide (true = true ∧ (true = true ∨ 0 < List.length (bw y_4)) ∧ (0 + List.length (bw y_4)) * 1 ≤ 140737488355328 ∧ 0 + List.length (bw y_4) ≤ 9223372036854775807) = true ∧ true = true)) (gb (decide (decide (true = true ∧ some (0 + List.length (bw y_4)) = some (List.length ([] ++ bw y_4)) ∧ (List.length ([] ++ bw y_4) + List.length (bw b)) * 1 ≤ 140737488355328 ∧ List.length ([] ++ bw y_4) + List.length (bw b) ≤ 9223372036854775807) = true ∧ true = true)) (∀ (y : List Pr × Nat × Int), y = takeP (List.map AL.byteOf ([] ++ bw y_4 ++ bw b)) → gb (Go.Proofs.Ytbghpjamahgegaa.bytsOk ([] ++ bw y_4 ++ bw b) 1) (brV (hold (Prod.snd (Prod.snd y) == (0 : Int))) true (brV (hold ((↑(Prod.fst (Prod.snd y)) : Int) == (↑(List.length (bw y_4)) : Int))) true (∀ (y_7 : Bool), y_7 = decide (List.map prOf (prv (Prod.fst y)) = List.map prOf (prv a)) → gb (Go.Proofs.Ytbghpjamahgegaa.prsOk (prv (Prod.fst y)) 4 && Go.Proofs.Ytbghpjamahgegaa.prsOk (prv a) 4) (Q (AVal.bool (hold y_7)) (Sto.setOwn (Sto.pushOwn (Sto.pushOwn Sto.empty (0 + List.length (bw b))) (0 + List.length (bw y_4))) 1 (List.length ([] ++ bw y_4) + List.length (bw b))))) (Q (AVal.bool false) (Sto.setOwn (Sto.pushOwn (Sto.pushOwn Sto.empty (0 + List.length (bw b))) (0 + List.length (bw y_4))) 1 (List.length ([] ++ bw y_4) + List.length (bw b))))) (Q (AVal.bool false) (Sto.setOwn (Sto.pushOwn (Sto.pushOwn Sto.empty (0 + List.length (bw b))) (0 + List.length (bw y_4))) 1 (List.length ([] ++ bw y_4) + List.length (bw b)))))))))))) (Q (AVal.bool false) (Sto.pushOwn Sto.empty (0 + List.length (bw b))))))))) (Q (AVal.bool false) (Sto.pushOwn Sto.empty (0 + List.length (bw b)))))) (Q (AVal.bool false) (Sto.pushOwn Sto.empty (0 + List.length (bw b))))) (Q (AVal.bool false) (Sto.pushOwn Sto.empty (0 + List.length (bw b))))))))) (Q (AVal.bool (hold true)) Sto.empty))) (Q (AVal.bool (hold true)) Sto.empty)) : ACall Try.prog 7 [.slice (prv a) 4 .ro, .slice (bw b) 1 .ro] (Sto.empty) Q :=
  ACall.intro hmix Try.func7 (c := code_7_) (by kernel_rfl) cTakes ho (Nat.le_of_ble_eq_true (by kernel_rfl)) (by rw [takes_r]; exact h)
end Go.Proofs.Ytbghpjamahgegaa.Pt7
end

section
set_option maxRecDepth 100000
set_option maxHeartbeats 0
set_option linter.unusedVariables false
namespace Go.Proofs.Ytbghpjamahgegaa.Pz
open Go.AL Go.Proofs
noncomputable def cContS : Cfg := { keep := [0, 1, 4], cut := [], orc := ofList [idxSE] }
noncomputable def cDrop1 : Cfg := { keep := [0, 1, 2, 3], cut := [], orc := ofList [containsSE] }
noncomputable def cIndexD : Cfg := { keep := [0, 1, 4, 5, 7, 8, 9, 16], cut := [(5, [0, 1, 7, 8], [])], orc := ofList [drop1E] }
noncomputable def cDropR : Cfg := { keep := [0, 1, 4, 5, 6, 7, 8, 12, 18, 35], cut := [(7, [0, 1, 5, 6], []), (15, [0, 1, 5, 6, 7, 8], []), (8, [0, 1, 5, 6], []), (14, [0, 1, 5, 6, 7, 8], []), (20, [0, 1, 5, 6, 7], []), (24, [5], [])], grow := [(5, 4)] }
noncomputable def cSetR : Cfg := { keep := [0, 1, 4, 5, 6, 7, 10, 17, 26, 33, 42], cut := [(13, [1, 6, 7], []), (26, [6], [])], orc := ofList [rightRE, Lt.rightRE, V.rightRE, putRE], grow := [(6, 1004)] }
noncomputable def cAwake : Cfg := { keep := [0, 1, 2, 3, 4], cut := [], orc := ofList [numE, textE, setE, bytesE, sameRE] }
noncomputable def code_19_ : Code := (Try.f19.body).getD .skip
noncomputable def code_21_ : Code := (Try.f21.body).getD .skip
noncomputable def code_39_ : Code := (Try.f39.body).getD .skip
noncomputable def code_40_ : Code := (Try.f40.body).getD .skip
noncomputable def code_41_ : Code := (Try.f41.body).getD .skip
noncomputable def code_8_ : Code := (Try.f8.body).getD .skip
noncomputable def code_41_1_1 : Code := codeAt code_41_ [1, 1]
noncomputable def code_21_1_1_1 : Code := codeAt code_21_ [1, 1, 1]
noncomputable def code_19_1_1_1_1_1 : Code := codeAt code_19_ [1, 1, 1, 1, 1]
noncomputable def code_41_1_0_1_0_0 : Code := codeAt code_41_ [1, 0, 1, 0, 0]
noncomputable def code_21_1_1_0_1_0_0 : Code := codeAt code_21_ [1, 1, 0, 1, 0, 0]
noncomputable def code_19_1_1_1_1_0_1_0_0 : Code := codeAt code_19_ [1, 1, 1, 1, 0, 1, 0, 0]
noncomputable def code_21_1_1_0_1_0_0_1_1 : Code := codeAt code_21_ [1, 1, 0, 1, 0, 0, 1, 1]
noncomputable def code_21_1_1_0_1_0_0_1_0_0_1_1 : Code := codeAt code_21_ [1, 1, 0, 1, 0, 0, 1, 0, 0, 1, 1]
noncomputable def code_21_1_1_0_1_0_0_1_0_0_1_0_1 : Code := codeAt code_21_ [1, 1, 0, 1, 0, 0, 1, 0, 0, 1, 0, 1]
noncomputable def code_21_1_1_0_1_0_0_1_0_0_1_0_1_0_0 : Code := codeAt code_21_ [1, 1, 0, 1, 0, 0, 1, 0, 0, 1, 0, 1, 0, 0]
theorem contS_r (l : List Txt) (s : Txt) (Q : AVal → Sto → Prop) : vc Try.prog cContS code_40_ (endK Try.prog Try.f40.results.toList Q) (St.start Try.f40.ntmps [.slice (strv l) 1 .ro, .str s] (Sto.empty)) =
  (∀ (y : Bool), y = List.contains (List.map AVal.strOf (strv l)) s → ∀ (y_1 : Int), (y_1 = if y = true then (↑(List.idxOf s (List.map AVal.strOf (strv l))) : Int) else (-1 : Int)) → gb (Go.Proofs.Ytbghpjamahgegaa.strsOk (strv l) 1) (Q (AVal.bool (hold (decide ((0 : Int) ≤ y_1)))) Sto.empty)) := by kernel_rfl
theorem contS_i (l : List Txt) (s : Txt) (Q : AVal → Sto → Prop) (ho : OrcOk Try.prog cContS) (h : ∀ (y : Bool), y = List.contains (List.map AVal.strOf (strv l)) s → ∀ (y_1 : Int), (y_1 = if y = true then (↑(List.idxOf s (List.map AVal.strOf (strv l))) : Int) else (-1 : Int)) → gb (Go.Proofs.Ytbghpjamahgegaa.strsOk (strv l) 1) (Q (AVal.bool (hold (decide ((0 : Int) ≤ y_1)))) Sto.empty)) : ACall Try.prog 40 [.slice (strv l) 1 .ro, .str s] (Sto.empty) Q :=
  ACall.intro hmix Try.func40 (c := code_40_) (by kernel_rfl) cContS ho (Nat.le_of_ble_eq_true (by kernel_rfl)) (by rw [contS_r]; exact h)
theorem drop1_r (key : Txt) (k n : Int) (s : Txt) (ks : List Txt) (Q : AVal → Sto → Prop) : vc Try.prog cDrop1 code_39_ (endK Try.prog Try.f39.results.toList Q) (St.start Try.f39.ntmps [.agg [.str key, .int .i64 k, .int .i64 n, .str s], .iptr [.slice (strv ks) 1 .ro]] (Sto.empty)) =
  (∀ (y : Bool), y = List.contains (List.map AVal.strOf (strv ks)) key → gb (Go.Proofs.Ytbghpjamahgegaa.strsOk (strv ks) 1) (Q (AVal.bool (hold y)) Sto.empty)) := by kernel_rfl
theorem drop1_i (key : Txt) (k n : Int) (s : Txt) (ks : List Txt) (Q : AVal → Sto → Prop) (ho : OrcOk Try.prog cDrop1) (h : ∀ (y : Bool), y = List.contains (List.map AVal.strOf (strv ks)) key → gb (Go.Proofs.Ytbghpjamahgegaa.strsOk (strv ks) 1) (Q (AVal.bool (hold y)) Sto.empty)) : ACall Try.prog 39 [.agg [.str key, .int .i64 k, .int .i64 n, .str s], .iptr [.slice (strv ks) 1 .ro]] (Sto.empty) Q :=
  ACall.intro hmix Try.func39 (c := code_39_) (by kernel_rfl) cDrop1 ho (Nat.le_of_ble_eq_true (by kernel_rfl)) (by rw [drop1_r]; exact h)
theorem indexD_r (l : List Pr) (ks : List Txt) (Q : AVal → Sto → Prop) : vc Try.prog cIndexD code_41_ (endK Try.prog Try.f41.results.toList Q) (St.start Try.f41.ntmps [.slice (prv l) 4 .ro, .func (.func 39) [] [.iptr [.slice (strv ks) 1 .ro]]] (Sto.empty)) =
  (loopV (fun s => St.norm [] [0, 1, 7, 8] [] s) (vc Try.prog cIndexD code_41_1_0_1_0_0) (blockK 0 (thenK (vc Try.prog cIndexD code_41_1_1 (endK Try.prog (Array.toList (Go.Func.results Try.f41)) Q)) (endK Try.prog (Array.toList (Go.Func.results Try.f41)) Q))) (St.mk 19 [(0, AVal.slice (prv l) 4 Tag.ro), (1, AVal.func (Go.Fn.func 39) [] [AVal.iptr [AVal.slice (strv ks) 1 Tag.ro]]), (7, AVal.int IntKind.i64 (↑(List.length (prv l)) : Int)), (8, AVal.int IntKind.i64 (0 : Int))] [] [] Sto.empty)) := by kernel_rfl
theorem indexD_i (l : List Pr) (ks : List Txt) (Q : AVal → Sto → Prop) (ho : OrcOk Try.prog cIndexD) (h : loopV (fun s => St.norm [] [0, 1, 7, 8] [] s) (vc Try.prog cIndexD code_41_1_0_1_0_0) (blockK 0 (thenK (vc Try.prog cIndexD code_41_1_1 (endK Try.prog (Array.toList (Go.Func.results Try.f41)) Q)) (endK Try.prog (Array.toList (Go.Func.results Try.f41)) Q))) (St.mk 19 [(0, AVal.slice (prv l) 4 Tag.ro), (1, AVal.func (Go.Fn.func 39) [] [AVal.iptr [AVal.slice (strv ks) 1 Tag.ro]]), (7, AVal.int IntKind.i64 (↑(List.length (prv l)) : Int)), (8, AVal.int IntKind.i64 (0 : Int))] [] [] Sto.empty)) : ACall Try.prog 41 [.slice (prv l) 4 .ro, .func (.func 39) [] [.iptr [.slice (strv ks) 1 .ro]]] (Sto.empty) Q :=
  ACall.intro hmix Try.func41 (c := code_41_) (by kernel_rfl) cIndexD ho (Nat.le_of_ble_eq_true (by kernel_rfl)) (by rw [indexD_r]; exact h)
noncomputable def indexDL_S (l : List Pr) (ks : List Txt) (n i : Nat) : St := St.mk 19 [(0, .slice (prv l) 4 .ro), (1, .func (.func 39) [] [.iptr [.slice (strv ks) 1 .ro]]), (7, .int .i64 (n : Int)), (8, .int .i64 (i : Int))] [] [] (Sto.empty)
noncomputable abbrev indexDL_C : Code := code_41_1_0_1_0_0
theorem indexDL_r (l : List Pr) (ks : List Txt) (n i : Nat) (L : St → Prop) (K : Exit → St → Prop) : vc Try.prog cIndexD code_41_1_0_1_0_0 (thenK (fun s => L (St.norm [] [0, 1, 7, 8] [] s)) K) (St.mk 19 [(0, .slice (prv l) 4 .ro), (1, .func (.func 39) [] [.iptr [.slice (strv ks) 1 .ro]]), (7, .int .i64 (n : Int)), (8, .int .i64 (i : Int))] [] [] (Sto.empty)) =
  (brV (hold (decide ((↑i : Int) < (↑n : Int)))) true (gb (decide ((0 : Int) ≤ (↑i : Int) ∧ (↑i : Int) < (↑(List.length (prv l)) : Int))) (gb (decide (4 ≤ List.length (elemAt (prv l) (↑i : Int)) ∧ 0 < 4) && (etaOk Sh.str (List.getD (elemAt (prv l) (↑i : Int)) 0 AVal.undef) && (etaOk (Sh.int IntKind.i64) (List.getD (elemAt (prv l) (↑i : Int)) 1 AVal.undef) && (etaOk (Sh.int IntKind.i64) (List.getD (elemAt (prv l) (↑i : Int)) 2 AVal.undef) && (etaOk Sh.str (List.getD (elemAt (prv l) (↑i : Int)) 3 AVal.undef) && true))))) (∀ (y : Bool), y = List.contains (List.map AVal.strOf (strv ks)) (AVal.strOf (List.getD (elemAt (prv l) (↑i : Int)) 0 AVal.undef)) → gb (Go.Proofs.Ytbghpjamahgegaa.strsOk (strv ks) 1) (brV (hold y) true (K Exit.ret (St.mk 19 [(0, AVal.slice (prv l) 4 Tag.ro), (1, AVal.func (Go.Fn.func 39) [] [AVal.iptr [AVal.slice (strv ks) 1 Tag.ro]]), (7, AVal.int IntKind.i64 (↑n : Int)), (8, AVal.int IntKind.i64 (↑i : Int)), (9, AVal.bool (hold (decide ((↑i : Int) < (↑n : Int))))), (5, AVal.int IntKind.i64 (↑i : Int)), (16, AVal.bool (hold y)), (4, AVal.int IntKind.i64 (↑i : Int))] [] [] Sto.empty)) (L (St.mk 19 [(0, AVal.slice (prv l) 4 Tag.ro), (1, AVal.func (Go.Fn.func 39) [] [AVal.iptr [AVal.slice (strv ks) 1 Tag.ro]]), (7, AVal.int IntKind.i64 (↑n : Int)), (8, AVal.int IntKind.i64 (IntKind.wrap IntKind.i64 ((↑i : Int) + (1 : Int))))] [] [] Sto.empty)))))) (K (Exit.exit 0) (St.mk 19 [(0, AVal.slice (prv l) 4 Tag.ro), (1, AVal.func (Go.Fn.func 39) [] [AVal.iptr [AVal.slice (strv ks) 1 Tag.ro]]), (7, AVal.int IntKind.i64 (↑n : Int)), (8, AVal.int IntKind.i64 (↑i : Int)), (9, AVal.bool (hold (decide ((↑i : Int) < (↑n : Int)))))] [] [] Sto.empty))) := by kernel_rfl
theorem dropR_r (l : List Pr) (ks : List Txt) (Q : AVal → Sto → Prop) : vc Try.prog cDropR code_21_ (endK Try.prog Try.f21.results.toList Q) (St.start Try.f21.ntmps [.slice (prv l) 4 .ro, .slice (strv ks) 1 .ro] (Sto.empty)) =
  (loopV (fun s => St.norm [(5, 4)] [0, 1, 5, 6] [] s) (vc Try.prog cDropR code_21_1_1_0_1_0_0) (blockK 0 (thenK (fun s => cutV (vc Try.prog cDropR code_21_1_1_1 (endK Try.prog (Array.toList (Go.Func.results Try.f21)) Q)) (St.norm [(5, 4)] [5] [] s)) (endK Try.prog (Array.toList (Go.Func.results Try.f21)) Q))) (St.mk 44 [(0, AVal.slice (prv l) 4 Tag.ro), (1, AVal.slice (strv ks) 1 Tag.ro), (5, AVal.slice [] 4 (Tag.own 0)), (6, AVal.int IntKind.i64 (0 : Int))] [] [] (Sto.pushOwn Sto.empty 0))) := by kernel_rfl
theorem dropR_i (l : List Pr) (ks : List Txt) (Q : AVal → Sto → Prop) (ho : OrcOk Try.prog cDropR) (h : loopV (fun s => St.norm [(5, 4)] [0, 1, 5, 6] [] s) (vc Try.prog cDropR code_21_1_1_0_1_0_0) (blockK 0 (thenK (fun s => cutV (vc Try.prog cDropR code_21_1_1_1 (endK Try.prog (Array.toList (Go.Func.results Try.f21)) Q)) (St.norm [(5, 4)] [5] [] s)) (endK Try.prog (Array.toList (Go.Func.results Try.f21)) Q))) (St.mk 44 [(0, AVal.slice (prv l) 4 Tag.ro), (1, AVal.slice (strv ks) 1 Tag.ro), (5, AVal.slice [] 4 (Tag.own 0)), (6, AVal.int IntKind.i64 (0 : Int))] [] [] (Sto.pushOwn Sto.empty 0))) : ACall Try.prog 21 [.slice (prv l) 4 .ro, .slice (strv ks) 1 .ro] (Sto.empty) Q :=
  ACall.intro hmix Try.func21 (c := code_21_) (by kernel_rfl) cDropR ho (Nat.le_of_ble_eq_true (by kernel_rfl)) (by rw [dropR_r]; exact h)
noncomputable def dropRL_S (l : List Pr) (ks : List Txt) (o : List Pr) (i : Nat) : St := St.mk 44 [(0, .slice (prv l) 4 .ro), (1, .slice (strv ks) 1 .ro), (5, .slice (prv o) 4 (.own 0)), (6, .int .i64 (i : Int))] [] [] (Sto.pushOwn Sto.empty (prv o).length)
noncomputable abbrev dropRL_C : Code := code_21_1_1_0_1_0_0
theorem dropRL_r (l : List Pr) (ks : List Txt) (o : List Pr) (i : Nat) (L : St → Prop) (K : Exit → St → Prop) : vc Try.prog cDropR code_21_1_1_0_1_0_0 (thenK (fun s => L (St.norm [(5, 4)] [0, 1, 5, 6] [] s)) K) (St.mk 44 [(0, .slice (prv l) 4 .ro), (1, .slice (strv ks) 1 .ro), (5, .slice (prv o) 4 (.own 0)), (6, .int .i64 (i : Int))] [] [] (Sto.pushOwn Sto.empty (prv o).length)) =
  (brV (hold (decide ((↑i : Int) < (↑(List.length (prv l)) : Int)))) true (cutV (vc Try.prog cDropR code_21_1_1_0_1_0_0_1_0_0_1_0_1 (thenK (fun s => cutV (vc Try.prog cDropR code_21_1_1_0_1_0_0_1_0_0_1_1 (blockK 1 (thenK (fun s => cutV (vc Try.prog cDropR code_21_1_1_0_1_0_0_1_1 (thenK (fun s => L (St.norm [(5, 4)] [0, 1, 5, 6] [] s)) K)) (St.norm [(5, 4)] [0, 1, 5, 6] [] s)) (thenK (fun s => L (St.norm [(5, 4)] [0, 1, 5, 6] [] s)) K)))) (St.norm [(5, 4)] [0, 1, 5, 6, 7] [] s)) (blockK 1 (thenK (fun s => cutV (vc Try.prog cDropR code_21_1_1_0_1_0_0_1_1 (thenK (fun s => L (St.norm [(5, 4)] [0, 1, 5, 6] [] s)) K)) (St.norm [(5, 4)] [0, 1, 5, 6] [] s)) (thenK (fun s => L (St.norm [(5, 4)] [0, 1, 5, 6] [] s)) K))))) (St.mk 44 [(0, AVal.slice (prv l) 4 Tag.ro), (1, AVal.slice (strv ks) 1 Tag.ro), (5, AVal.slice (prv o) 4 (Tag.own 0)), (6, AVal.int IntKind.i64 (↑i : Int)), (7, AVal.bool false), (8, AVal.int IntKind.i64 (0 : Int))] [] [] (Sto.pushOwn Sto.empty (List.length (prv o))))) (K (Exit.exit 0) (St.mk 44 [(0, AVal.slice (prv l) 4 Tag.ro), (1, AVal.slice (strv ks) 1 Tag.ro), (5, AVal.slice (prv o) 4 (Tag.own 0)), (6, AVal.int IntKind.i64 (↑i : Int)), (12, AVal.bool (hold (decide ((↑i : Int) < (↑(List.length (prv l)) : Int)))))] [] [] (Sto.pushOwn Sto.empty (List.length (prv o)))))) := by kernel_rfl
noncomputable def dropRI_S (l : List Pr) (ks : List Txt) (o : List Pr) (i : Nat) : St := St.mk 44 [(0, .slice (prv l) 4 .ro), (1, .slice (strv ks) 1 .ro), (5, .slice (prv o) 4 (.own 0)), (6, .int .i64 (i : Int))] [] [] (Sto.pushOwn Sto.empty (prv o).length)
noncomputable abbrev dropRI_C : Code := code_21_1_1_0_1_0_0_1_1
theorem dropRI_r (l : List Pr) (ks : List Txt) (o : List Pr) (i : Nat) (K : Exit → St → Prop) : vc Try.prog cDropR code_21_1_1_0_1_0_0_1_1 K (St.mk 44 [(0, .slice (prv l) 4 .ro), (1, .slice (strv ks) 1 .ro), (5, .slice (prv o) 4 (.own 0)), (6, .int .i64 (i : Int))] [] [] (Sto.pushOwn Sto.empty (prv o).length)) =
  (K Exit.normal (St.mk 44 [(0, AVal.slice (prv l) 4 Tag.ro), (1, AVal.slice (strv ks) 1 Tag.ro), (5, AVal.slice (prv o) 4 (Tag.own 0)), (6, AVal.int IntKind.i64 (IntKind.wrap IntKind.i64 ((↑i : Int) + (1 : Int))))] [] [] (Sto.pushOwn Sto.empty (List.length (prv o))))) := by kernel_rfl
noncomputable def dropRM_S (l : List Pr) (ks : List Txt) (o : List Pr) (i : Nat) (g : Bool) (k : Nat) : St := St.mk 44 [(0, .slice (prv l) 4 .ro), (1, .slice (strv ks) 1 .ro), (5, .slice (prv o) 4 (.own 0)), (6, .int .i64 (i : Int)), (7, .bool g), (8, .int .i64 (k : Int))] [] [] (Sto.pushOwn Sto.empty (prv o).length)
noncomputable abbrev dropRM_C : Code := code_21_1_1_0_1_0_0_1_0_0_1_0_1_0_0
theorem dropRM_r (l : List Pr) (ks : List Txt) (o : List Pr) (i : Nat) (g : Bool) (k : Nat) (L : St → Prop) (K : Exit → St → Prop) : vc Try.prog cDropR code_21_1_1_0_1_0_0_1_0_0_1_0_1_0_0 (thenK (fun s => L (St.norm [(5, 4)] [0, 1, 5, 6, 7, 8] [] s)) K) (St.mk 44 [(0, .slice (prv l) 4 .ro), (1, .slice (strv ks) 1 .ro), (5, .slice (prv o) 4 (.own 0)), (6, .int .i64 (i : Int)), (7, .bool g), (8, .int .i64 (k : Int))] [] [] (Sto.pushOwn Sto.empty (prv o).length)) =
  (brV (hold (decide ((↑k : Int) < (↑(List.length (strv ks)) : Int)))) true (brV g false (gb (decide ((0 : Int) ≤ (↑k : Int) ∧ (↑k : Int) < (↑(List.length (strv ks)) : Int))) (gb (decide (1 ≤ List.length (elemAt (strv ks) (↑k : Int)) ∧ 0 < 1) && etaOk Sh.str (List.getD (elemAt (strv ks) (↑k : Int)) 0 AVal.undef)) (gb (decide ((0 : Int) ≤ (↑i : Int) ∧ (↑i : Int) < (↑(List.length (prv l)) : Int))) (gb (decide (1 ≤ List.length (List.drop 0 (elemAt (prv l) (↑i : Int))) ∧ 0 < 1) && etaOk Sh.str (List.getD (List.drop 0 (elemAt (prv l) (↑i : Int))) 0 AVal.undef)) (L (St.mk 44 [(0, AVal.slice (prv l) 4 Tag.ro), (1, AVal.slice (strv ks) 1 Tag.ro), (5, AVal.slice (prv o) 4 (Tag.own 0)), (6, AVal.int IntKind.i64 (↑i : Int)), (7, AVal.bool (hold (AVal.strOf (List.getD (elemAt (strv ks) (↑k : Int)) 0 AVal.undef) == AVal.strOf (List.getD (List.drop 0 (elemAt (prv l) (↑i : Int))) 0 AVal.undef)))), (8, AVal.int IntKind.i64 (IntKind.wrap IntKind.i64 ((↑k : Int) + (1 : Int))))] [] [] (Sto.pushOwn Sto.empty (List.length (prv o))))))))) (L (St.mk 44 [(0, AVal.slice (prv l) 4 Tag.ro), (1, AVal.slice (strv ks) 1 Tag.ro), (5, AVal.slice (prv o) 4 (Tag.own 0)), (6, AVal.int IntKind.i64 (↑i : Int)), (7, AVal.bool true), (8, AVal.int IntKind.i64 (IntKind.wrap IntKind.i64 ((↑k : Int) + (1 : Int))))] [] [] (Sto.pushOwn Sto.empty (List.length (prv o)))))) (K (Exit.exit 2) (St.mk 44 [(0, AVal.slice (prv l) 4 Tag.ro), (1, AVal.slice (strv ks) 1 Tag.ro), (5, AVal.slice (prv o) 4 (Tag.own 0)), (6, AVal.int IntKind.i64 (↑i : Int)), (7, AVal.bool g), (8, AVal.int IntKind.i64 (↑k : Int)), (18, AVal.bool (hold (decide ((↑k : Int) < (↑(List.length (strv ks)) : Int)))))] [] [] (Sto.pushOwn Sto.empty (List.length (prv o)))))) := by kernel_rfl
noncomputable def dropRK_S (l : List Pr) (ks : List Txt) (o : List Pr) (i : Nat) (g : Bool) : St := St.mk 44 [(0, .slice (prv l) 4 .ro), (1, .slice (strv ks) 1 .ro), (5, .slice (prv o) 4 (.own 0)), (6, .int .i64 (i : Int)), (7, .bool g)] [] [] (Sto.pushOwn Sto.empty (prv o).length)
noncomputable abbrev dropRK_C : Code := code_21_1_1_0_1_0_0_1_0_0_1_1
theorem dropRK_r (l : List Pr) (ks : List Txt) (o : List Pr) (i : Nat) (g : Bool) (K : Exit → St → Prop) : vc Try.prog cDropR code_21_1_1_0_1_0_0_1_0_0_1_1 K (St.mk 44 [(0, .slice (prv l) 4 .ro), (1, .slice (strv ks) 1 .ro), (5, .slice (prv o) 4 (.own 0)), (6, .int .i64 (i : Int)), (7, .bool g)] [] [] (Sto.pushOwn Sto.empty (prv o).length)) =
  (brV (!g) true (gb (decide ((0 : Int) ≤ (↑i : Int) ∧ (↑i : Int) < (↑(List.length (prv l)) : Int))) (gb (decide (4 ≤ List.length (elemAt (prv l) (↑i : Int)) ∧ 0 < 4) && (etaOk Sh.str (List.getD (elemAt (prv l) (↑i : Int)) 0 AVal.undef) && (etaOk (Sh.int IntKind.i64) (List.getD (elemAt (prv l) (↑i : Int)) 1 AVal.undef) && (etaOk (Sh.int IntKind.i64) (List.getD (elemAt (prv l) (↑i : Int)) 2 AVal.undef) && (etaOk Sh.str (List.getD (elemAt (prv l) (↑i : Int)) 3 AVal.undef) && true))))) (gb (decide (decide (true = true ∧ some (List.length (prv o)) = some (List.length (prv o)) ∧ (List.length (prv o) + 1) * 48 ≤ 140737488355328 ∧ List.length (prv o) + 1 ≤ 9223372036854775807) = true ∧ true = true)) (K Exit.normal (St.mk 44 [(0, AVal.slice (prv l) 4 Tag.ro), (1, AVal.slice (strv ks) 1 Tag.ro), (5, AVal.slice (prv o ++ [AVal.agg [AVal.str (AVal.strOf (List.getD (elemAt (prv l) (↑i : Int)) 0 AVal.undef)), AVal.int IntKind.i64 (AVal.intOf (List.getD (elemAt (prv l) (↑i : Int)) 1 AVal.undef)), AVal.int IntKind.i64 (AVal.intOf (List.getD (elemAt (prv l) (↑i : Int)) 2 AVal.undef)), AVal.str (AVal.strOf (List.getD (elemAt (prv l) (↑i : Int)) 3 AVal.undef))]]) 4 (Tag.own 0)), (6, AVal.int IntKind.i64 (↑i : Int)), (7, AVal.bool g), (35, AVal.bool !g)] [] [] (Sto.setOwn (Sto.pushOwn Sto.empty (List.length (prv o))) 0 (List.length (prv o) + 1))))))) (K Exit.normal (St.mk 44 [(0, AVal.slice (prv l) 4 Tag.ro), (1, AVal.slice (strv ks) 1 Tag.ro), (5, AVal.slice (prv o) 4 (Tag.own 0)), (6, AVal.int IntKind.i64 (↑i : Int)), (7, AVal.bool g), (35, AVal.bool !g)] [] [] (Sto.pushOwn Sto.empty (List.length (prv o)))))) := by kernel_rfl
noncomputable def dropRF_S (o : List Pr) : St := St.mk 44 [(5, .slice (prv o) 4 (.own 0))] [] [] (Sto.pushOwn Sto.empty (prv o).length)
noncomputable abbrev dropRF_C : Code := code_21_1_1_1
theorem dropRF_r (o : List Pr) (Q : AVal → Sto → Prop) : vc Try.prog cDropR code_21_1_1_1 (endK Try.prog Try.f21.results.toList Q) (St.mk 44 [(5, .slice (prv o) 4 (.own 0))] [] [] (Sto.pushOwn Sto.empty (prv o).length)) =
  (Q (AVal.slice (prv o) 4 (Tag.own 0)) (Sto.pushOwn Sto.empty (List.length (prv o)))) := by kernel_rfl
theorem setR_r (l ns : List Pr) (Q : AVal → Sto → Prop) : vc Try.prog cSetR code_19_ (endK Try.prog Try.f19.results.toList Q) (St.start Try.f19.ntmps [.slice (prv l) 4 .ro, .slice (prv ns) 4 .ro] (Sto.empty)) =
  (∀ (y : Bool), y = (incP (List.map prOf (prv l)) && decide (List.length (List.map prOf (prv l)) ≤ 16)) → gb (Go.Proofs.Ytbghpjamahgegaa.prsOk (prv l) 4) (brV (!hold y) true (Q (AVal.tuple [AVal.slice [] 0 Tag.nil, AVal.int IntKind.i64 (2 : Int)]) Sto.empty) (gb (decide (decide (true = true ∧ List.length (prv l) * 48 ≤ 140737488355328 ∧ List.length (prv l) ≤ 9223372036854775807) = true ∧ true = true)) (loopV (fun s => St.norm [(6, 1004)] [1, 6, 7] [] s) (vc Try.prog cSetR code_19_1_1_1_1_0_1_0_0) (blockK 0 (thenK (fun s => cutV (vc Try.prog cSetR code_19_1_1_1_1_1 (endK Try.prog (Array.toList (Go.Func.results Try.f19)) Q)) (St.norm [(6, 1004)] [6] [] s)) (endK Try.prog (Array.toList (Go.Func.results Try.f19)) Q))) (St.mk 44 [(1, AVal.slice (prv ns) 4 Tag.ro), (6, AVal.slice (prv l) 4 Tag.ro), (7, AVal.int IntKind.i64 (0 : Int))] [] [] (Sto.pushOwn Sto.empty (List.length (prv l)))))))) := by kernel_rfl
theorem setR_i (l ns : List Pr) (Q : AVal → Sto → Prop) (ho : OrcOk Try.prog cSetR) (h : ∀ (y : Bool), y = (incP (List.map prOf (prv l)) && decide (List.length (List.map prOf (prv l)) ≤ 16)) → gb (Go.Proofs.Ytbghpjamahgegaa.prsOk (prv l) 4) (brV (!hold y) true (Q (AVal.tuple [AVal.slice [] 0 Tag.nil, AVal.int IntKind.i64 (2 : Int)]) Sto.empty) (gb (decide (decide (true = true ∧ List.length (prv l) * 48 ≤ 140737488355328 ∧ List.length (prv l) ≤ 9223372036854775807) = true ∧ true = true)) (loopV (fun s => St.norm [(6, 1004)] [1, 6, 7] [] s) (vc Try.prog cSetR code_19_1_1_1_1_0_1_0_0) (blockK 0 (thenK (fun s => cutV (vc Try.prog cSetR code_19_1_1_1_1_1 (endK Try.prog (Array.toList (Go.Func.results Try.f19)) Q)) (St.norm [(6, 1004)] [6] [] s)) (endK Try.prog (Array.toList (Go.Func.results Try.f19)) Q))) (St.mk 44 [(1, AVal.slice (prv ns) 4 Tag.ro), (6, AVal.slice (prv l) 4 Tag.ro), (7, AVal.int IntKind.i64 (0 : Int))] [] [] (Sto.pushOwn Sto.empty (List.length (prv l)))))))) : ACall Try.prog 19 [.slice (prv l) 4 .ro, .slice (prv ns) 4 .ro] (Sto.empty) Q :=
  ACall.intro hmix Try.func19 (c := code_19_) (by kernel_rfl) cSetR ho (Nat.le_of_ble_eq_true (by kernel_rfl)) (by rw [setR_r]; exact h)
noncomputable def setRL_S (ns o : List Pr) (i : Nat) (σ : Sto) : St := St.mk 44 [(1, .slice (prv ns) 4 .ro), (6, .slice (prv o) 4 .ro), (7, .int .i64 (i : Int))] [] [] (σ)
noncomputable abbrev setRL_C : Code := code_19_1_1_1_1_0_1_0_0
theorem setRL_r (ns o : List Pr) (i : Nat) (σ : Sto) (L : St → Prop) (K : Exit → St → Prop) : vc Try.prog cSetR code_19_1_1_1_1_0_1_0_0 (thenK (fun s => L (St.norm [(6, 1004)] [1, 6, 7] [] s)) K) (St.mk 44 [(1, .slice (prv ns) 4 .ro), (6, .slice (prv o) 4 .ro), (7, .int .i64 (i : Int))] [] [] (σ)) =
  (brV (hold (decide ((↑i : Int) < (↑(List.length (prv ns)) : Int)))) true (gb (decide ((0 : Int) ≤ (↑i : Int) ∧ (↑i : Int) < (↑(List.length (prv ns)) : Int))) (gb (decide (1 ≤ List.length (List.drop 0 (elemAt (prv ns) (↑i : Int))) ∧ 0 < 1) && etaOk Sh.str (List.getD (List.drop 0 (elemAt (prv ns) (↑i : Int))) 0 AVal.undef)) (gb (Go.Proofs.Ytbghpjamahgegaa.Lt.lenT (AVal.strOf (List.getD (List.drop 0 (elemAt (prv ns) (↑i : Int))) 0 AVal.undef))) (brV (!hold (nameT (AVal.strOf (List.getD (List.drop 0 (elemAt (prv ns) (↑i : Int))) 0 AVal.undef)))) true (K Exit.ret (St.mk 44 [(1, AVal.slice (prv ns) 4 Tag.ro), (6, AVal.slice (prv o) 4 Tag.ro), (7, AVal.int IntKind.i64 (↑i : Int)), (17, AVal.bool (hold (decide ((↑i : Int) < (↑(List.length (prv ns)) : Int))))), (26, AVal.bool !hold (nameT (AVal.strOf (List.getD (List.drop 0 (elemAt (prv ns) (↑i : Int))) 0 AVal.undef)))), (4, AVal.slice [] 0 Tag.nil), (5, AVal.int IntKind.i64 (30 : Int))] [] [] σ)) (gb (decide ((0 : Int) ≤ (↑i : Int) ∧ (↑i : Int) < (↑(List.length (prv ns)) : Int))) (gb (decide (3 ≤ List.length (List.drop 1 (elemAt (prv ns) (↑i : Int))) ∧ 0 < 3) && (etaOk (Sh.int IntKind.i64) (List.getD (List.drop 1 (elemAt (prv ns) (↑i : Int))) 0 AVal.undef) && (etaOk (Sh.int IntKind.i64) (List.getD (List.drop 1 (elemAt (prv ns) (↑i : Int))) 1 AVal.undef) && (etaOk Sh.str (List.getD (List.drop 1 (elemAt (prv ns) (↑i : Int))) 2 AVal.undef) && true)))) (brV (!hold (okV (Vl.mk (AVal.intOf (List.getD (List.drop 1 (elemAt (prv ns) (↑i : Int))) 0 AVal.undef)) (AVal.intOf (List.getD (List.drop 1 (elemAt (prv ns) (↑i : Int))) 1 AVal.undef)) (AVal.strOf (List.getD (List.drop 1 (elemAt (prv ns) (↑i : Int))) 2 AVal.undef))))) true (K Exit.ret (St.mk 44 [(1, AVal.slice (prv ns) 4 Tag.ro), (6, AVal.slice (prv o) 4 Tag.ro), (7, AVal.int IntKind.i64 (↑i : Int)), (17, AVal.bool (hold (decide ((↑i : Int) < (↑(List.length (prv ns)) : Int))))), (26, AVal.bool !hold (nameT (AVal.strOf (List.getD (List.drop 0 (elemAt (prv ns) (↑i : Int))) 0 AVal.undef)))), (33, AVal.bool !hold (okV (Vl.mk (AVal.intOf (List.getD (List.drop 1 (elemAt (prv ns) (↑i : Int))) 0 AVal.undef)) (AVal.intOf (List.getD (List.drop 1 (elemAt (prv ns) (↑i : Int))) 1 AVal.undef)) (AVal.strOf (List.getD (List.drop 1 (elemAt (prv ns) (↑i : Int))) 2 AVal.undef))))), (4, AVal.slice [] 0 Tag.nil), (5, AVal.int IntKind.i64 (22 : Int))] [] [] σ)) (gb (decide ((0 : Int) ≤ (↑i : Int) ∧ (↑i : Int) < (↑(List.length (prv ns)) : Int))) (gb (decide (4 ≤ List.length (elemAt (prv ns) (↑i : Int)) ∧ 0 < 4) && (etaOk Sh.str (List.getD (elemAt (prv ns) (↑i : Int)) 0 AVal.undef) && (etaOk (Sh.int IntKind.i64) (List.getD (elemAt (prv ns) (↑i : Int)) 1 AVal.undef) && (etaOk (Sh.int IntKind.i64) (List.getD (elemAt (prv ns) (↑i : Int)) 2 AVal.undef) && (etaOk Sh.str (List.getD (elemAt (prv ns) (↑i : Int)) 3 AVal.undef) && true))))) (∀ (y : List Pr), y = putP (List.map prOf (prv o)) (Pr.mk (AVal.strOf (List.getD (elemAt (prv ns) (↑i : Int)) 0 AVal.undef)) (Vl.mk (AVal.intOf (List.getD (elemAt (prv ns) (↑i : Int)) 1 AVal.undef)) (AVal.intOf (List.getD (elemAt (prv ns) (↑i : Int)) 2 AVal.undef)) (AVal.strOf (List.getD (elemAt (prv ns) (↑i : Int)) 3 AVal.undef)))) → gb (Go.Proofs.Ytbghpjamahgegaa.prsOk (prv o) 4 && (hold (incP (List.map prOf (prv o))) && Go.Proofs.Ytbghpjamahgegaa.Lt.lenT (AVal.strOf (List.getD (elemAt (prv ns) (↑i : Int)) 0 AVal.undef)))) (L (St.mk 44 [(1, AVal.slice (prv ns) 4 Tag.ro), (6, AVal.slice (prv y) 4 Tag.ro), (7, AVal.int IntKind.i64 (IntKind.wrap IntKind.i64 ((↑i : Int) + (1 : Int))))] [] [] σ)))))))))))) (K (Exit.exit 0) (St.mk 44 [(1, AVal.slice (prv ns) 4 Tag.ro), (6, AVal.slice (prv o) 4 Tag.ro), (7, AVal.int IntKind.i64 (↑i : Int)), (17, AVal.bool (hold (decide ((↑i : Int) < (↑(List.length (prv ns)) : Int)))))] [] [] σ))) := by kernel_rfl
noncomputable def setRF_S (o : List Pr) (σ : Sto) : St := St.mk 44 [(6, .slice (prv o) 4 .ro)] [] [] (σ)
noncomputable abbrev setRF_C : Code := code_19_1_1_1_1_1
theorem setRF_r (o : List Pr) (σ : Sto) (Q : AVal → Sto → Prop) : vc Try.prog cSetR code_19_1_1_1_1_1 (endK Try.prog Try.f19.results.toList Q) (St.mk 44 [(6, .slice (prv o) 4 .ro)] [] [] (σ)) =
  (brV (hold (decide ((16 : Int) < (↑(List.length (prv o)) : Int)))) true (Q (AVal.tuple [AVal.slice [] 0 Tag.nil, AVal.int IntKind.i64 (32 : Int)]) σ) (Q (AVal.tuple [AVal.slice (prv o) 4 Tag.ro, AVal.int IntKind.i64 (0 : Int)]) σ)) := by kernel_rfl
theorem awake_r  (Q : AVal → Sto → Prop) : vc Try.prog cAwake code_8_ (endK Try.prog Try.f8.results.toList Q) (St.start Try.f8.ntmps [] (Sto.empty)) =
  (∀ (y : List Pr × Int), y = ([Pr.mk [(97 : UInt8)] (Vl.mk (2 : Int) (0 : Int) [(120 : UInt8)]), Pr.mk [(98 : UInt8)] (Vl.mk (1 : Int) (2 : Int) [])], (0 : Int)) → gb (Go.Proofs.Ytbghpjamahgegaa.prsOk [AVal.agg [AVal.str [(98 : UInt8)], AVal.int IntKind.i64 (1 : Int), AVal.int IntKind.i64 (1 : Int), AVal.str []]] 4 && (Go.Proofs.Ytbghpjamahgegaa.prsOk [AVal.agg [AVal.str [(97 : UInt8)], AVal.int IntKind.i64 (2 : Int), AVal.int IntKind.i64 (0 : Int), AVal.str [(120 : UInt8)]], AVal.agg [AVal.str [(98 : UInt8)], AVal.int IntKind.i64 (1 : Int), AVal.int IntKind.i64 (2 : Int), AVal.str []]] 4 && hold true)) (∀ (y_1 : Bool), y_1 = (incP (List.map prOf (prv (Prod.fst y))) && decide (List.length (List.map prOf (prv (Prod.fst y))) ≤ 16)) → ∀ (y_2 : Txt), (y_2 = if y_1 = true then bytesP (List.map prOf (prv (Prod.fst y))) else []) → gb (Go.Proofs.Ytbghpjamahgegaa.prsOk (prv (Prod.fst y)) 4) (brV (hold (Prod.snd y == (0 : Int))) true (∀ (y_3 : Bool), y_3 = decide (List.map prOf (prv (Prod.fst y)) = [Pr.mk [(97 : UInt8)] (Vl.mk (2 : Int) (0 : Int) [(120 : UInt8)]), Pr.mk [(98 : UInt8)] (Vl.mk (1 : Int) (2 : Int) [])]) → gb (Go.Proofs.Ytbghpjamahgegaa.prsOk (prv (Prod.fst y)) 4 && Go.Proofs.Ytbghpjamahgegaa.prsOk [AVal.agg [AVal.str [(97 : UInt8)], AVal.int IntKind.i64 (2 : Int), AVal.int IntKind.i64 (0 : Int), AVal.str [(120 : UInt8)]], AVal.agg [AVal.str [(98 : UInt8)], AVal.int IntKind.i64 (1 : Int), AVal.int IntKind.i64 (2 : Int), AVal.str []]] 4) (brV (hold y_3) true (brV (hold ((if y_1 = true then (0 : Int) else (2 : Int)) == (0 : Int))) true (gb (decide (List.all (bw y_2) isU8 = true)) (Q (AVal.bool (hold (List.map AL.byteOf (bw y_2) == [(2 : UInt8), (1 : UInt8), (97 : UInt8), (2 : UInt8), (120 : UInt8), (0 : UInt8), (0 : UInt8), (1 : UInt8), (98 : UInt8), (1 : UInt8), (128 : UInt8), (0 : UInt8), (0 : UInt8), (0 : UInt8), (0 : UInt8), (0 : UInt8), (0 : UInt8), (2 : UInt8)]))) Sto.empty)) (Q (AVal.bool false) Sto.empty)) (Q (AVal.bool false) Sto.empty))) (Q (AVal.bool false) Sto.empty)))) := by kernel_rfl
theorem awake_i  (Q : AVal → Sto → Prop) (ho : OrcOk Try.prog cAwake) (h : ∀ (y : List Pr × Int), y = ([Pr.mk [(97 : UInt8)] (Vl.mk (2 : Int) (0 : Int) [(120 : UInt8)]), Pr.mk [(98 : UInt8)] (Vl.mk (1 : Int) (2 : Int) [])], (0 : Int)) → gb (Go.Proofs.Ytbghpjamahgegaa.prsOk [AVal.agg [AVal.str [(98 : UInt8)], AVal.int IntKind.i64 (1 : Int), AVal.int IntKind.i64 (1 : Int), AVal.str []]] 4 && (Go.Proofs.Ytbghpjamahgegaa.prsOk [AVal.agg [AVal.str [(97 : UInt8)], AVal.int IntKind.i64 (2 : Int), AVal.int IntKind.i64 (0 : Int), AVal.str [(120 : UInt8)]], AVal.agg [AVal.str [(98 : UInt8)], AVal.int IntKind.i64 (1 : Int), AVal.int IntKind.i64 (2 : Int), AVal.str []]] 4 && hold true)) (∀ (y_1 : Bool), y_1 = (incP (List.map prOf (prv (Prod.fst y))) && decide (List.length (List.map prOf (prv (Prod.fst y))) ≤ 16)) → ∀ (y_2 : Txt), (y_2 = if y_1 = true then bytesP (List.map prOf (prv (Prod.fst y))) else []) → gb (Go.Proofs.Ytbghpjamahgegaa.prsOk (prv (Prod.fst y)) 4) (brV (hold (Prod.snd y == (0 : Int))) true (∀ (y_3 : Bool), y_3 = decide (List.map prOf (prv (Prod.fst y)) = [Pr.mk [(97 : UInt8)] (Vl.mk (2 : Int) (0 : Int) [(120 : UInt8)]), Pr.mk [(98 : UInt8)] (Vl.mk (1 : Int) (2 : Int) [])]) → gb (Go.Proofs.Ytbghpjamahgegaa.prsOk (prv (Prod.fst y)) 4 && Go.Proofs.Ytbghpjamahgegaa.prsOk [AVal.agg [AVal.str [(97 : UInt8)], AVal.int IntKind.i64 (2 : Int), AVal.int IntKind.i64 (0 : Int), AVal.str [(120 : UInt8)]], AVal.agg [AVal.str [(98 : UInt8)], AVal.int IntKind.i64 (1 : Int), AVal.int IntKind.i64 (2 : Int), AVal.str []]] 4) (brV (hold y_3) true (brV (hold ((if y_1 = true then (0 : Int) else (2 : Int)) == (0 : Int))) true (gb (decide (List.all (bw y_2) isU8 = true)) (Q (AVal.bool (hold (List.map AL.byteOf (bw y_2) == [(2 : UInt8), (1 : UInt8), (97 : UInt8), (2 : UInt8), (120 : UInt8), (0 : UInt8), (0 : UInt8), (1 : UInt8), (98 : UInt8), (1 : UInt8), (128 : UInt8), (0 : UInt8), (0 : UInt8), (0 : UInt8), (0 : UInt8), (0 : UInt8), (0 : UInt8), (2 : UInt8)]))) Sto.empty)) (Q (AVal.bool false) Sto.empty)) (Q (AVal.bool false) Sto.empty))) (Q (AVal.bool false) Sto.empty)))) : ACall Try.prog 8 [] (Sto.empty) Q :=
  ACall.intro hmix Try.func8 (c := code_8_) (by kernel_rfl) cAwake ho (Nat.le_of_ble_eq_true (by kernel_rfl)) (by rw [awake_r]; exact h)
end Go.Proofs.Ytbghpjamahgegaa.Pz
end

section
namespace Go.AL
set_option linter.unusedSimpArgs false
set_option linter.unusedVariables false
theorem Wk.iptr {xs ys : List AVal} (h : WkL xs ys) : Wk (.iptr xs) (.iptr ys) := fun γ w l v hr => by
  cases hr with
  | iptr h0 h1 hc => exact .iptr (h _ _ _ _ h0) h1 hc
theorem idxOf_at {l : List Txt} {s : Txt} {i : Nat} (hlt : i < l.length) (e : l[i] = s) (hpre : ∀ j (h : j < l.length), j < i → ¬ l[j] = s) : l.contains s = true ∧ l.idxOf s = i := by
  refine ⟨by rw [← e]; simp, ?_⟩
  unfold List.idxOf
  rw [List.findIdx_eq hlt]
  exact ⟨by simp [e], fun j hj => by simpa using hpre j (by omega) hj⟩
theorem not_contains {l : List Txt} {s : Txt} (hpre : ∀ j (h : j < l.length), ¬ l[j] = s) : l.contains s = false := by
  rw [Bool.eq_false_iff]
  intro h
  obtain ⟨j, hj, e⟩ := List.getElem_of_mem (List.contains_iff_mem.1 h)
  exact hpre j hj e
theorem dropP_take1 (l : List Pr) (ks : List Txt) (j : Nat) (h : j < l.length) : dropP (l.take (j + 1)) ks = dropP (l.take j) ks ++ (if ks.contains l[j].key then [] else [l[j]]) := by
  rw [List.take_succ_eq_append_getElem h]
  unfold dropP
  rw [List.filter_append]
  cases e : ks.contains l[j].key <;> simp at e <;> simp [e]
theorem dropP_length_le (l : List Pr) (ks : List Txt) : (dropP l ks).length ≤ l.length := List.length_filter_le _ _
theorem smallP_iff {l : List Pr} : smallP l = true ↔ l.length ≤ 40 ∧ ∀ p ∈ l, p.key.length ≤ 300 ∧ p.v.s.length ≤ 300 := by unfold smallP; rw [decide_eq_true_eq]
end Go.AL
namespace Go.Proofs.Ytbghpjamahgegaa
open Go.AL
set_option linter.unusedSimpArgs false
set_option linter.unusedVariables false
set_option maxHeartbeats 2000000
set_option maxRecDepth 20000
theorem thenN {f : St → Prop} {K : Exit → St → Prop} {st : St} (h : f st) : thenK f K .normal st := h
theorem strsOk_of {es : List AVal} {s : Nat} (h : strsOk es s = true) : okW 1 s es = true ∧ es.all strIs = true ∧ (es.map AVal.strOf).length ≤ 1000000 := by
  simp only [strsOk, Bool.and_eq_true, hold_eq, decide_eq_true_eq] at h
  exact ⟨h.1, h.2.1, by simpa using h.2.2⟩
theorem strsOk_mk {l : List Txt} (h : l.length ≤ 1000000) : strsOk (strv l) 1 = true := by
  simp only [strsOk, Bool.and_eq_true, hold_eq, decide_eq_true_eq]
  exact ⟨rfl, strv_is _, by simpa using h⟩
theorem idxS_c (l : List Txt) (s : Txt) (hl : l.length ≤ 1000000) : ACall Try.prog 57 [.slice (strv l) 1 .ro, .str s] Sto.empty fun r _ => Wk r (.int .i64 (if l.contains s then (l.idxOf s : Int) else -1)) := by
  refine idxS_i l s _ (.of_none rfl) ?_
  have hn : (strv l).length = l.length := strv_length l
  refine loopV_intro (α := Nat) (fun i => idxSL_S l s (strv l).length i) (fun i => i ≤ l.length ∧ ∀ j (h : j < l.length), j < i → ¬ l[j] = s) (fun i => l.length - i) ?_ 0 ⟨Nat.zero_le _, fun j _ h => by omega⟩
  rintro i ⟨hi, hpre⟩ L hL
  refine Eq.mpr (idxSL_r l s (strv l).length i L _) ?_
  simp only [hold_eq]
  refine brV_by (fun h => ?_) (fun h => ?_)
  · have hlt : i < l.length := by have := of_decide_eq_true h; omega
    rw [i64_succ hlt (by omega), elemAt_strv l i hlt]
    refine gb_by (dt (by omega)) (gb_by rfl (brV_by (fun h => ?_) (fun h => ?_)))
    · have hb : l[i] = s := by
        have h : (s == l[i]) = true := h
        exact (eq_of_beq h).symm
      obtain ⟨e1, e2⟩ := idxOf_at hlt hb hpre
      rw [if_pos e1, e2]; exact Wk.refl _
    · have hb : ¬ l[i] = s := by
        have h : (s == l[i]) = false := h
        intro e
        rw [e] at h
        simp at h
      refine hL (i + 1) ⟨hlt, fun j hj hji => ?_⟩ (by omega)
      rcases Nat.lt_or_ge j i with h9 | h9
      · exact hpre j hj h9
      · obtain rfl : j = i := by omega
        exact hb
  · have hge : i = l.length := by have := of_decide_eq_false h; omega
    have e := not_contains fun j hj => hpre j hj (by omega)
    rw [e, if_neg (by simp)]; exact Wk.refl _
theorem idxS_ok : EntOk Try.prog idxSE := by
  intro xs σ; simp only [idxSE]; split
  · rename_i es s t x
    intro hc
    obtain ⟨h1, h2, h3⟩ := strsOk_of hc
    exact pcall_of (v := .int .i64 _) (.cons (wk_strv t h1 h2) (.refl _)) (idxS_c _ x h3) (by simp only [noOutL, AVal.noOut, strv_noOut, Bool.and_true]) (by simp only [noTokL, AVal.noTok, strv_noTok, Bool.and_true, Tag.below]) rfl rfl
  · trivial
theorem contS_c (l : List Txt) (s : Txt) (hl : l.length ≤ 1000000) : ACall Try.prog 40 [.slice (strv l) 1 .ro, .str s] Sto.empty fun r _ => Wk r (.bool (l.contains s)) := by
  refine Pz.contS_i l s _ (.of [idxSE] rfl ⟨idxS_ok, trivial⟩) ?_
  intro y hy i hi
  simp only [map_strOf_strv] at hy
  refine gb_by (strsOk_mk hl) ?_
  have : decide (0 ≤ i) = l.contains s := by
    rw [hi, ← hy]
    cases y
    · simp
    · simp
  rw [hold_eq, this]
  exact Wk.refl _
theorem contS_ok : EntOk Try.prog containsSE := by
  intro xs σ; simp only [containsSE]; split
  · rename_i es s t x
    intro hc
    obtain ⟨h1, h2, h3⟩ := strsOk_of hc
    exact pcall_of (v := .bool _) (.cons (wk_strv t h1 h2) (.refl _)) (by rw [hold_eq]; exact contS_c _ x h3) (by simp only [noOutL, AVal.noOut, strv_noOut, Bool.and_true]) (by simp only [noTokL, AVal.noTok, strv_noTok, Bool.and_true, Tag.below]) rfl rfl
  · trivial
theorem drop1_c (key : Txt) (k n : Int) (s : Txt) (ks : List Txt) (hl : ks.length ≤ 1000000) : ACall Try.prog 39 [.agg [.str key, .int .i64 k, .int .i64 n, .str s], .iptr [.slice (strv ks) 1 .ro]] Sto.empty fun r _ => Wk r (.bool (ks.contains key)) := by
  refine Pz.drop1_i key k n s ks _ (.of [containsSE] rfl ⟨contS_ok, trivial⟩) ?_
  intro y hy
  simp only [map_strOf_strv] at hy
  subst hy
  refine gb_by (strsOk_mk hl) ?_
  rw [hold_eq]
  exact Wk.refl _
theorem drop1_ok : EntOk Try.prog drop1E := by
  intro xs σ; simp only [drop1E]; split
  · rename_i key k n s es s' t
    intro hc
    obtain ⟨h1, h2, h3⟩ := strsOk_of hc
    refine pcall_of (v := .bool _) (.cons (.refl _) (.cons (Wk.iptr ?_) (.refl _))) (by rw [hold_eq]; exact drop1_c key k n s _ h3) (by simp only [noOutL, AVal.noOut, strv_noOut, Bool.and_true]) (by simp only [noTokL, AVal.noTok, strv_noTok, Bool.and_true, Tag.below]) rfl rfl
    exact .cons (wk_strv t h1 h2) (.refl _)
  · trivial
def idxD (l : List Pr) (ks : List Txt) : Int := if l.any fun p => ks.contains p.key then (l.findIdx (fun p => ks.contains p.key) : Int) else -1
theorem indexD_c (l : List Pr) (ks : List Txt) (hl : l.length ≤ 1000000) (hk : ks.length ≤ 1000000) : ACall Try.prog 41 [.slice (prv l) 4 .ro, .func (.func 39) [] [.iptr [.slice (strv ks) 1 .ro]]] Sto.empty fun r _ => Wk r (.int .i64 (idxD l ks)) := by
  refine Pz.indexD_i l ks _ (.of [drop1E] rfl ⟨drop1_ok, trivial⟩) ?_
  have hn : (prv l).length = l.length := prv_length l
  refine loopV_intro (α := Nat) (fun i => Pz.indexDL_S l ks (prv l).length i) (fun i => i ≤ l.length ∧ ∀ j (h : j < l.length), j < i → ks.contains l[j].key = false) (fun i => l.length - i) ?_ 0 ⟨Nat.zero_le _, fun j _ h => by omega⟩
  rintro i ⟨hi, hpre⟩ L hL
  refine Eq.mpr (Pz.indexDL_r l ks (prv l).length i L _) ?_
  simp only [hold_eq, map_strOf_strv]
  refine brV_by (fun h => ?_) (fun h => ?_)
  · have hlt : i < l.length := by have := of_decide_eq_true h; omega
    rw [i64_succ hlt (by omega), elemAt_prv l i hlt]
    refine gb_by (dt (by omega)) (gb_by rfl ?_)
    intro y hy
    have hy : y = ks.contains l[i].key := hy
    refine gb_by (strsOk_mk hk) (brV_by (fun h => ?_) (fun h => ?_))
    · have hb : ks.contains l[i].key = true := by rw [← hy]; exact h
      have e : idxD l ks = i := by
        unfold idxD
        rw [if_pos (List.any_eq_true.2 ⟨l[i], List.getElem_mem hlt, hb⟩)]
        congr 1
        rw [List.findIdx_eq hlt]
        exact ⟨hb, fun j hj => hpre j (by omega) hj⟩
      rw [e]; exact Wk.refl _
    · have hb : ks.contains l[i].key = false := by rw [← hy]; exact h
      refine hL (i + 1) ⟨hlt, fun j hj hji => ?_⟩ (by omega)
      rcases Nat.lt_or_ge j i with h9 | h9
      · exact hpre j hj h9
      · obtain rfl : j = i := by omega
        exact hb
  · have hge : i = l.length := by have := of_decide_eq_false h; omega
    have e : idxD l ks = -1 := by
      unfold idxD
      rw [if_neg]
      intro hh
      obtain ⟨x, hx, hb⟩ := List.any_eq_true.1 hh
      obtain ⟨j, hj, rfl⟩ := List.getElem_of_mem hx
      rw [hpre j hj (by omega)] at hb
      cases hb
    rw [e]; exact Wk.refl _
theorem num_ok : EntOk Try.prog numE := by
  intro xs σ; simp only [numE]; split
  · rename_i key n
    intro _
    exact pcall_of (v := .agg [.str key, .int .i64 1, .int .i64 n, .str []]) (.refl _) (num_i key n _ (.of_none rfl) (Wk.refl _)) rfl rfl rfl rfl
  · trivial
theorem text_ok : EntOk Try.prog textE := by
  intro xs σ; simp only [textE]; split
  · rename_i key s
    intro _
    exact pcall_of (v := .agg [.str key, .int .i64 2, .int .i64 0, .str s]) (.refl _) (text_i key s _ (.of_none rfl) (Wk.refl _)) rfl rfl rfl rfl
  · trivial
theorem small_c (l : List Pr) : ACall Try.prog 9 [.slice (prv l) 4 .ro] Sto.empty fun r _ => Wk r (.bool (smallP l)) := by
  refine small_i l _ (.of_none rfl) ?_
  have hn : (prv l).length = l.length := prv_length l
  have no : smallP l = false → Wk (.bool false) (.bool (smallP l)) := fun h => by rw [h]; exact Wk.refl _
  simp only [hold_eq]
  refine brV_by (fun h => ?_) (fun h => ?_)
  · have h : 40 < l.length := by have := of_decide_eq_true h; omega
    exact no (decide_eq_false fun ⟨h1, _⟩ => by omega)
  have h40 : l.length ≤ 40 := by have := of_decide_eq_false h; omega
  refine loopV_intro (α := Nat) (fun i => smallL_S l i) (fun i => i ≤ l.length ∧ ∀ j (h : j < l.length), j < i → l[j].key.length ≤ 300 ∧ l[j].v.s.length ≤ 300) (fun i => l.length - i) ?_ 0 ⟨Nat.zero_le _, fun j _ h => by omega⟩
  rintro i ⟨hi, hpre⟩ L hL
  refine Eq.mpr (smallL_r l i L _) ?_
  simp only [hold_eq]
  refine brV_by (fun h => ?_) (fun h => ?_)
  · have hlt : i < l.length := by have := of_decide_eq_true h; omega
    rw [i64_succ hlt (by omega), elemAt_prv l i hlt]
    refine gb_by (dt (by omega)) (gb_by rfl (brV_by' (fun h => ?_) (fun h => ?_)))
    · have h1 : l[i].key.length ≤ 300 := by
        have h : ¬ (300 : Int) < (l[i].key.length : Int) := of_decide_eq_false h
        omega
      refine gb_by (dt (by omega)) (gb_by rfl (brV_by (fun h => ?_) (fun h => ?_)))
      · have h2 : (300 : Int) < (l[i].v.s.length : Int) := of_decide_eq_true h
        exact no (decide_eq_false fun ⟨_, h⟩ => by have := h l[i] (List.getElem_mem hlt); omega)
      · have h2 : ¬ (300 : Int) < (l[i].v.s.length : Int) := of_decide_eq_false h
        refine hL (i + 1) ⟨hlt, fun j hj hji => ?_⟩ (by omega)
        rcases Nat.lt_or_ge j i with h9 | h9
        · exact hpre j hj h9
        · obtain rfl : j = i := by omega
          exact ⟨h1, by omega⟩
    · have h2 : (300 : Int) < (l[i].key.length : Int) := of_decide_eq_true h
      exact no (decide_eq_false fun ⟨_, h⟩ => by have := h l[i] (List.getElem_mem hlt); omega)
  · have hge : i = l.length := by have := of_decide_eq_false h; omega
    have e : smallP l = true := smallP_iff.2 ⟨h40, fun p hp => by
      obtain ⟨j, hj, rfl⟩ := List.getElem_of_mem hp
      exact hpre j hj (by omega)⟩
    rw [e]; exact Wk.refl _
theorem small_ok : EntOk Try.prog smallE := by
  intro xs σ; simp only [smallE]; split
  · rename_i es s t
    intro hc
    simp only [Bool.and_eq_true] at hc
    obtain ⟨h1, h2⟩ := hc
    exact pcall_of (v := .bool _) (.cons (wk_prv t h1 h2) (.refl _)) (by rw [hold_eq]; exact small_c _) (by simp only [noOutL, AVal.noOut, prv_noOut, Bool.and_true]) (by simp only [noTokL, AVal.noTok, prv_noTok, Bool.and_true, Tag.below]) rfl rfl
  · trivial
theorem copied_c (l : List Pr) (hl : l.length ≤ 1000000) : ACall Try.prog 15 [.slice (prv l) 4 .ro] Sto.empty fun r _ => Wk r (.slice (prv l) 4 .ro) := by
  refine copied_i l _ (.of_none rfl) ?_
  have hn : (prv l).length = l.length := prv_length l
  by_cases h0 : l = []
  · subst h0
    refine gb_by (dt ⟨dt ⟨rfl, .inl rfl, by simp, by simp⟩, rfl⟩) ?_
    exact Wk.ro _ _ _
  · have : 0 < l.length := List.length_pos_iff.2 h0
    refine gb_by (dt ⟨dt ⟨rfl, .inl rfl, by omega, by omega⟩, rfl⟩) ?_
    exact Wk.ro _ _ _
theorem copied_ok : EntOk Try.prog copiedE := by
  intro xs σ; simp only [copiedE]; split
  · rename_i es s t
    intro hc
    obtain ⟨h1, h2, h3, _⟩ := prsOk_of hc
    exact pcall_of (v := .slice _ 4 .ro) (.cons (wk_prv t h1 h2) (.refl _)) (copied_c _ h3) (by simp only [noOutL, AVal.noOut, prv_noOut, Bool.and_true]) (by simp only [noTokL, AVal.noTok, prv_noTok, Bool.and_true, Tag.below]) (by simp only [AVal.noOut, prv_noOut]) (by simp only [AVal.noTok, prv_noTok, Tag.below, Bool.and_true])
  · trivial
theorem dropR_c (l : List Pr) (ks : List Txt) (hl : l.length ≤ 1000000) (hk : ks.length ≤ 1000000) : ACall Try.prog 21 [.slice (prv l) 4 .ro, .slice (strv ks) 1 .ro] Sto.empty fun r _ => Wk r (.slice (prv (dropP l ks)) 4 .ro) := by
  refine Pz.dropR_i l ks _ (.of_none rfl) ?_
  have hn : (prv l).length = l.length := prv_length l
  have hkn : (strv ks).length = ks.length := strv_length ks
  refine loopV_intro (α := Nat × List Pr) (fun x => Pz.dropRL_S l ks x.2 x.1) (fun x => x.1 ≤ l.length ∧ x.2 = dropP (l.take x.1) ks) (fun x => l.length - x.1) ?_ (0, []) ⟨Nat.zero_le _, rfl⟩
  rintro ⟨i, o⟩ ⟨hi, ho⟩ L hL
  have hi : i ≤ l.length := hi
  have ho : o = dropP (l.take i) ks := ho
  refine Eq.mpr (Pz.dropRL_r l ks o i L _) ?_
  have hol := prv_length o
  have hole : o.length ≤ i := by rw [ho]; exact Nat.le_trans (dropP_length_le _ _) (by simp; omega)
  simp only [hold_eq]
  refine brV_by (fun h => ?_) (fun h => ?_)
  · have hlt : i < l.length := by have := of_decide_eq_true h; omega
    refine toCut ?_
    refine loopV_intro (α := Nat × Bool) (fun x => Pz.dropRM_S l ks o i x.2 x.1) (fun x => x.1 ≤ ks.length ∧ x.2 = (ks.take x.1).contains l[i].key) (fun x => ks.length - x.1) ?_ (0, false) ⟨Nat.zero_le _, by simp⟩
    rintro ⟨k, g⟩ ⟨hk', hg⟩ M hM
    have hk' : k ≤ ks.length := hk'
    have hg : g = (ks.take k).contains l[i].key := hg
    refine Eq.mpr (Pz.dropRM_r l ks o i g k M _) ?_
    simp only [hold_eq]
    refine brV_by (fun h => ?_) (fun h => ?_)
    · have hkl : k < ks.length := by have := of_decide_eq_true h; omega
      have e1 : (ks.take (k + 1)).contains l[i].key = (g || ks[k] == l[i].key) := by
        rw [List.take_succ_eq_append_getElem hkl, hg, Bool.eq_iff_iff]
        simp only [List.contains_eq_mem, List.mem_append, List.mem_singleton, Bool.or_eq_true, decide_eq_true_eq, beq_iff_eq]
        exact ⟨fun h => h.imp id Eq.symm, fun h => h.imp id Eq.symm⟩
      rw [i64_succ hkl (by omega)]
      refine brV_by' (fun h => ?_) (fun h => ?_)
      · subst h
        rw [elemAt_strv ks k hkl, elemAt_prv l i hlt]
        refine gb_by (dt (by omega)) (gb_by rfl (gb_by (dt (by omega)) (gb_by rfl ?_)))
        exact hM (k + 1, ks[k] == l[i].key) ⟨hkl, by rw [e1]; simp⟩ (by show ks.length - (k + 1) < ks.length - k; omega)
      · subst h
        exact hM (k + 1, true) ⟨hkl, by rw [e1]; rfl⟩ (by show ks.length - (k + 1) < ks.length - k; omega)
    · have hge : k = ks.length := by have := of_decide_eq_false h; omega
      rw [hge, List.take_length] at hg
      have hst := dropP_take1 l ks i hlt
      rw [← ho, ← hg] at hst
      refine leaveTo (toCut (Eq.mpr (Pz.dropRK_r l ks o i g _) ?_))
      simp only [hold_eq]
      have nxt : ∀ o' : List Pr, o' = dropP (l.take (i + 1)) ks → L (Pz.dropRL_S l ks o' (i + 1)) := fun o' h => hL (i + 1, o') ⟨hlt, h⟩ (by show l.length - (i + 1) < l.length - i; omega)
      refine brV_by (fun h => ?_) (fun h => ?_)
      · have hgf : g = false := by simpa using h
        subst hgf
        rw [elemAt_prv l i hlt]
        refine gb_by (dt (by omega)) (gb_by rfl (gb_by (dt ⟨dt ⟨trivial, trivial, by omega, by omega⟩, trivial⟩) ?_))
        refine inBlock (toCut ?_)
        have e1 : prv o ++ [AVal.agg [AVal.str (AVal.strOf (List.getD [AVal.str l[i].key, AVal.int .i64 l[i].v.k, AVal.int .i64 l[i].v.n, AVal.str l[i].v.s] 0 .undef)), AVal.int .i64 (AVal.intOf (List.getD [AVal.str l[i].key, AVal.int .i64 l[i].v.k, AVal.int .i64 l[i].v.n, AVal.str l[i].v.s] 1 .undef)), AVal.int .i64 (AVal.intOf (List.getD [AVal.str l[i].key, AVal.int .i64 l[i].v.k, AVal.int .i64 l[i].v.n, AVal.str l[i].v.s] 2 .undef)), AVal.str (AVal.strOf (List.getD [AVal.str l[i].key, AVal.int .i64 l[i].v.k, AVal.int .i64 l[i].v.n, AVal.str l[i].v.s] 3 .undef))]] = prv (o ++ [l[i]]) := by rw [prv_append]; rfl
        rw [e1, setOwn_e1, show (prv o).length + 1 = (prv (o ++ [l[i]])).length by simp]
        refine Eq.mpr (Pz.dropRI_r l ks (o ++ [l[i]]) i _) ?_
        rw [i64_succ hlt (by omega)]
        exact thenN (nxt _ (by rw [hst]; rfl))
      · have hgt : g = true := by simpa using h
        subst hgt
        refine inBlock (toCut ?_)
        refine Eq.mpr (Pz.dropRI_r l ks o i _) ?_
        rw [i64_succ hlt (by omega)]
        exact thenN (nxt _ (by rw [hst]; simp))
  · have hge : i = l.length := by have := of_decide_eq_false h; omega
    rw [hge, List.take_length] at ho
    refine leaveTo (toCut (Eq.mpr (Pz.dropRF_r o _) ?_))
    rw [ho]
    exact Wk.ro _ _ _
theorem setR_c (l ns : List Pr) (hl : l.length ≤ 1000000) (hn : ns.length ≤ 900000) (hp : ∀ p ∈ l, p.fit) (hq : ∀ p ∈ ns, p.fit) : ACall Try.prog 19 [.slice (prv l) 4 .ro, .slice (prv ns) 4 .ro] Sto.empty fun r _ =>
    Wk r (.tuple [.slice (prv (setP l ns).1) 4 .ro, .int .i64 (setP l ns).2]) := by
  refine Pz.setR_i l ns _ (.of [rightRE, Lt.rightRE, V.rightRE, putRE] rfl ⟨rightR_ok, Lt.rightR_ok, V.rightR_ok, putR_ok, trivial⟩) ?_
  intro y hy
  have hy : y = rightP l := by rw [hy, map_prOf_prv]; rfl
  refine gb_by (prsOk_mk hl hp) ?_
  simp only [hold_eq]
  have err : ∀ e : Int, setP l ns = ([], e) → Wk (.tuple [.slice [] 0 .nil, .int .i64 e]) (.tuple [.slice (prv (setP l ns).1) 4 .ro, .int .i64 (setP l ns).2]) := fun e h => by
    rw [h]; exact .tuple (.cons (Wk.nil _ _ _) (.refl _))
  have hln := prv_length l
  have hnn := prv_length ns
  refine brV_by (fun h => ?_) (fun h => ?_)
  · have hr : rightP l = false := by rw [← hy]; simpa using h
    exact err 2 (by simp [setP, hr])
  have hr : rightP l = true := by rw [← hy]; simpa using h
  have hl16 : l.length ≤ 16 := by have := hr; simp [rightP] at this; exact this.2
  have hinc0 : incP l = true := by have := hr; simp [rightP] at this; exact this.1
  refine gb_by (dt ⟨dt ⟨trivial, by omega, by omega⟩, trivial⟩) ?_
  refine loopV_intro (α := Nat × List Pr) (fun x => Pz.setRL_S ns x.2 x.1 (Sto.pushOwn Sto.empty (prv l).length)) (fun x => x.1 ≤ ns.length ∧ incP x.2 = true ∧ x.2.length ≤ 16 + x.1 ∧ (∀ p ∈ x.2, p.fit) ∧ laysP l ns = laysP x.2 (ns.drop x.1)) (fun x => ns.length - x.1) ?_ (0, l) ⟨Nat.zero_le _, hinc0, hl16, hp, rfl⟩
  rintro ⟨i, o⟩ ⟨hi, hinc, hol, hfit, hlays⟩ L hL
  have hi : i ≤ ns.length := hi
  have hinc : incP o = true := hinc
  have hol : o.length ≤ 16 + i := hol
  have hfit : ∀ p ∈ o, p.fit := hfit
  have hlays : laysP l ns = laysP o (ns.drop i) := hlays
  refine Eq.mpr (Pz.setRL_r ns o i _ L _) ?_
  simp only [hold_eq, map_prOf_prv]
  refine brV_by (fun h => ?_) (fun h => ?_)
  · have hlt : i < ns.length := by have := of_decide_eq_true h; omega
    have hpf := hq _ (List.getElem_mem hlt)
    rw [List.drop_eq_getElem_cons hlt] at hlays
    rw [i64_succ hlt (by omega), elemAt_prv ns i hlt]
    refine gb_by (dt (by omega)) (gb_by rfl (gb_by (Lt.lenT_mk hpf.1) (brV_by (fun h => ?_) (fun h => ?_))))
    · have hname : nameT ns[i].key = false := by
        have h : (!nameT ns[i].key) = true := h
        simpa using h
      exact err 30 (setP_err hr (hlays.trans (laysP_name hname _ _)) (by decide))
    · have hname : nameT ns[i].key = true := by
        have h : (!nameT ns[i].key) = false := h
        simpa using h
      refine gb_by (dt (by omega)) (gb_by rfl (brV_by (fun h => ?_) (fun h => ?_)))
      · have hval : okV ns[i].v = false := by
          have h : (!okV ns[i].v) = true := h
          simpa using h
        exact err 22 (setP_err hr (hlays.trans (laysP_val hname hval _ _)) (by decide))
      · have hval : okV ns[i].v = true := by
          have h : (!okV ns[i].v) = false := h
          simpa using h
        refine gb_by (dt (by omega)) (gb_by rfl ?_)
        intro y2 hy2
        have hy2 : y2 = putP o ns[i] := hy2
        subst hy2
        refine gb_by (and_tt (prsOk_mk (by omega) hfit) (and_tt hinc (Lt.lenT_mk hpf.1))) ?_
        refine hL (i + 1, putP o ns[i]) ⟨hlt, incP_put _ (by simp [okP, hname, hval]) o hinc, ?_, ?_, ?_⟩ (by show ns.length - (i + 1) < ns.length - i; omega)
        · have := putP_length ns[i] o
          show (putP o ns[i]).length ≤ 16 + (i + 1)
          omega
        · intro x hx
          rcases putP_mem ns[i] x o hx with rfl | h
          · exact hpf
          · exact hfit x h
        · exact hlays.trans (laysP_put hname hval _ _)
  · have hge : i = ns.length := by have := of_decide_eq_false h; omega
    rw [hge, List.drop_length] at hlays
    have hlays : laysP l ns = (o, 0) := hlays
    have hon := prv_length o
    refine leaveTo (toCut (Eq.mpr (Pz.setRF_r o _ _) ?_))
    simp only [hold_eq]
    refine brV_by (fun h => ?_) (fun h => ?_)
    · have h16 : 16 < o.length := by have := of_decide_eq_true h; omega
      exact err 32 (setP_many hr hlays h16)
    · have h16 : ¬ 16 < o.length := by have := of_decide_eq_false h; omega
      rw [setP_ok hr hlays h16]
      exact Wk.refl _
theorem setR_ok : EntOk Try.prog setRE := by
  intro xs σ; simp only [setRE]; split
  · rename_i es s t fs s' t'
    intro hc
    simp only [Bool.and_eq_true, hold_eq, decide_eq_true_eq] at hc
    obtain ⟨hc, hd, hn⟩ := hc
    obtain ⟨h1, h2, h3, h4⟩ := prsOk_of hc
    obtain ⟨g1, g2, g3, g4⟩ := prsOk_of hd
    exact pcall_of (v := .tuple [.slice _ 4 .ro, .int .i64 _]) (.cons (wk_prv t h1 h2) (.cons (wk_prv t' g1 g2) (.refl _))) (setR_c _ _ h3 (by simpa using hn) h4 g4) (by simp only [noOutL, AVal.noOut, prv_noOut, Bool.and_true]) (by simp only [noTokL, AVal.noTok, prv_noTok, Bool.and_true, Tag.below]) (by simp only [noOutL, AVal.noOut, prv_noOut, Bool.and_true]) (by simp only [noTokL, AVal.noTok, prv_noTok, Tag.below, Bool.and_true])
  · trivial
theorem awake_c : ACall Try.prog 8 [] Sto.empty fun r _ => Wk r (.bool true) := by
  refine Pz.awake_i _ (.of [numE, textE, setE, bytesE, sameRE] rfl ⟨num_ok, text_ok, set_ok, bytes_ok, sameR_ok, trivial⟩) ?_
  intro y hy
  subst hy
  have fit : ∀ l : List Pr, l.length ≤ 10 → (∀ p ∈ l, p.key.length ≤ 10 ∧ p.v.s.length ≤ 10 ∧ -10 ≤ p.v.n ∧ p.v.n ≤ 10) → ∀ es, es = prv l → prsOk es 4 = true := fun l h1 h2 es he => by
    rw [he]; exact prsOk_mk (by omega) fun p hp => ⟨by have := h2 p hp; omega, by have := h2 p hp; omega, by have := h2 p hp; omega, by have := h2 p hp; omega⟩
  refine gb_by (and_tt (fit [⟨[98], ⟨1, 1, []⟩⟩] (by decide) (by decide) _ rfl) (and_tt (fit [⟨[97], ⟨2, 0, [120]⟩⟩, ⟨[98], ⟨1, 2, []⟩⟩] (by decide) (by decide) _ rfl) (by rw [hold_eq]))) ?_
  intro y1 h1
  rw [map_prOf_prv] at h1
  intro y2 h2
  rw [map_prOf_prv] at h2
  refine gb_by (fit _ (by decide) (by decide) _ rfl) ?_
  simp only [hold_eq, map_prOf_prv]
  have e1 : y1 = true := by rw [h1]; decide
  subst e1
  rw [if_pos rfl] at h2
  refine brV_by (fun _ => ?_) (fun h => by cases h)
  intro y3 h3
  have e3 : y3 = true := by rw [h3]; decide
  subst e3
  refine gb_by (and_tt (fit _ (by decide) (by decide) _ rfl) (fit [⟨[97], ⟨2, 0, [120]⟩⟩, ⟨[98], ⟨1, 2, []⟩⟩] (by decide) (by decide) _ rfl)) ?_
  refine brV_by (fun _ => ?_) (fun h => by cases h)
  refine brV_by (fun _ => ?_) (fun h => by simp at h)
  subst h2
  refine gb_by (by decide) ?_
  rw [show (List.map AL.byteOf (bw (bytesP [⟨[97], ⟨2, 0, [120]⟩⟩, ⟨[98], ⟨1, 2, []⟩⟩])) == [(2 : UInt8), 1, 97, 2, 120, 0, 0, 1, 98, 1, 128, 0, 0, 0, 0, 0, 0, 2]) = true by decide]
  exact Wk.refl _
theorem awake_ok : EntOk Try.prog awakeE := by
  intro xs σ; simp only [awakeE]; split
  · intro hc
    exact pcall_of (.refl _) (by rw [hold_eq]; exact awake_c) rfl rfl rfl rfl
  · trivial
theorem dropR_ok : EntOk Try.prog dropRE := by
  intro xs σ; simp only [dropRE]; split
  · rename_i es s t ks s' t'
    intro hc
    simp only [Bool.and_eq_true, hold_eq, decide_eq_true_eq] at hc
    obtain ⟨hc, g1, g2, g3⟩ := hc
    obtain ⟨h1, h2, h3, _⟩ := prsOk_of hc
    exact pcall_of (v := .slice _ 4 .ro) (.cons (wk_prv t h1 h2) (.cons (wk_strv t' g1 g2) (.refl _))) (dropR_c _ _ h3 (by simpa using g3)) (by simp only [noOutL, AVal.noOut, prv_noOut, strv_noOut, Bool.and_true]) (by simp only [noTokL, AVal.noTok, prv_noTok, strv_noTok, Bool.and_true, Tag.below]) (by simp only [AVal.noOut, prv_noOut]) (by simp only [AVal.noTok, prv_noTok, Tag.below, Bool.and_true])
  · trivial
end Go.Proofs.Ytbghpjamahgegaa
end

section
namespace Go.AL
set_option linter.unusedSimpArgs false
set_option linter.unusedVariables false
theorem rune_len2 : ∀ (n : Nat) (s : Txt), s.length ≤ n → (∀ r ∈ runeL s, r ≤ 591) → s.length ≤ 2 * (runeL s).length
  | 0, s, h, _ => by omega
  | n + 1, s, h, hr => by
    by_cases h0 : s = []
    · subst h0; simp
    rw [runeL_cons h0] at hr ⊢
    have h1 := hr _ List.mem_cons_self
    have hw := Lib.decodeL_width s
    have hle := Lib.decodeL_le s h0
    have hl := Lib.runeLen_decode s (by omega)
    have h2 : (Lib.decodeL s).2 ≤ 2 := by
      have : Lib.runeLen ((Lib.decodeL s).1 : Int) ≤ 2 := by
        unfold Lib.runeLen
        repeat' split
        all_goals omega
      omega
    have ih := rune_len2 n (s.drop (Lib.decodeL s).2) (by rw [List.length_drop]; omega) (fun r hm => hr r (List.mem_cons_of_mem _ hm))
    rw [List.length_drop] at ih
    rw [List.length_cons]
    omega
theorem name_len {s : Txt} (h : nameT s = true) : s.length ≤ 64 := by
  have h32 : (runeL s).length ≤ 32 ∧ ∀ r ∈ runeL s, r ≤ 591 := by
    unfold nameT at h
    generalize runeL s = l at h
    cases l with
    | nil => cases h
    | cons r l =>
      simp only [nameR, Bool.and_eq_true, decide_eq_true_eq, List.all_eq_true, Bool.or_eq_true] at h
      obtain ⟨⟨h1, h2⟩, h3⟩ := h
      have lb : ∀ x, letB x = true → x ≤ 591 := fun x hx => by simp only [letB, decide_eq_true_eq] at hx; omega
      have db : ∀ x, digB x = true → x ≤ 591 := fun x hx => by simp only [digB, decide_eq_true_eq] at hx; omega
      refine ⟨by simp; omega, fun x hx => ?_⟩
      rcases List.mem_cons.1 hx with rfl | hx
      · exact lb _ h1
      · rcases h2 x hx with h | h
        · exact lb _ h
        · exact db _ h
  have := rune_len2 s.length s (Nat.le_refl _) h32.2
  omega
theorem u8_nat {n : Nat} (h : n ≤ 255) : (UInt8.ofNat n).toNat = n := by simp; omega
theorem takesP_bytes : ∀ (l : List Pr) (pre t : Txt) (acc : List Pr), (∀ p ∈ l, p.v.fit) → incP l = true → (∀ q p, acc.getLast? = some q → l.head? = some p → cmpK q.key p.key < 0) →
    takesP (pre ++ (l.flatMap oneP ++ t)) l.length acc pre.length = (acc ++ l, pre.length + (l.flatMap oneP).length, 0)
  | [], pre, t, acc, _, _, _ => by simp [takesP]
  | p :: l, pre, t, acc, hf, hi, hh => by
    obtain ⟨h1, h2, h3⟩ := (incP_cons p l).1 hi
    have h1' : nameT p.key = true ∧ okV p.v = true := by simpa [okP] using h1
    obtain ⟨hname, hval⟩ := h1'
    have hk := name_len hname
    have hkn : (UInt8.ofNat p.key.length).toNat = p.key.length := u8_nat (by omega)
    have hb := take_bytes p.v (of_decide_eq_true hval) (hf p List.mem_cons_self) (l.flatMap oneP ++ t)
    have e1 : pre ++ ((p :: l).flatMap oneP ++ t) = pre ++ (UInt8.ofNat p.key.length :: (p.key ++ (bytesV p.v ++ (l.flatMap oneP ++ t)))) := by
      rw [List.flatMap_cons, oneP]; simp
    have eg : (pre ++ ((p :: l).flatMap oneP ++ t)).getD pre.length 0 = UInt8.ofNat p.key.length := by
      rw [e1, List.getD_eq_getElem?_getD, List.getElem?_append_right (Nat.le_refl _)]; simp
    have ed : (pre ++ ((p :: l).flatMap oneP ++ t)).drop (pre.length + 1) = p.key ++ (bytesV p.v ++ (l.flatMap oneP ++ t)) := by
      rw [e1, ← List.drop_drop, List.drop_left]; rfl
    have et : ((pre ++ ((p :: l).flatMap oneP ++ t)).drop (pre.length + 1)).take p.key.length = p.key := by rw [ed, List.take_left]
    have ed2 : (pre ++ ((p :: l).flatMap oneP ++ t)).drop (pre.length + 1 + p.key.length) = bytesV p.v ++ (l.flatMap oneP ++ t) := by
      rw [← List.drop_drop, ed, List.drop_left]
    have hlen : (pre ++ ((p :: l).flatMap oneP ++ t)).length = pre.length + 1 + p.key.length + (bytesV p.v).length + (l.flatMap oneP ++ t).length := by
      rw [e1]; simp; omega
    have hnl : ¬ (nameT p.key = false ∨ ∃ q, acc.getLast? = some q ∧ 0 ≤ cmpK q.key p.key) := by
      rintro (h | ⟨q, hq, hc⟩)
      · rw [hname] at h; cases h
      · have := hh q p hq rfl; omega
    rw [List.length_cons, takesP, eg, hkn, et, ed2, hb]
    rw [if_neg (by omega), if_neg (by omega), if_neg hnl, if_neg (by simp)]
    have ih := takesP_bytes l (pre ++ (UInt8.ofNat p.key.length :: (p.key ++ bytesV p.v))) t (acc ++ [p]) (fun q hq => hf q (List.mem_cons_of_mem _ hq)) h2 (fun q r hq hr => by
      rw [List.getLast?_append, List.getLast?_singleton] at hq
      cases hq
      exact h3 r hr)
    have e2 : pre ++ (UInt8.ofNat p.key.length :: (p.key ++ bytesV p.v)) ++ (l.flatMap oneP ++ t) = pre ++ ((p :: l).flatMap oneP ++ t) := by rw [e1]; simp
    have e3 : (pre ++ (UInt8.ofNat p.key.length :: (p.key ++ bytesV p.v))).length = pre.length + 1 + p.key.length + (bytesV p.v).length := by simp; omega
    rw [e2, e3] at ih
    simp only
    have ep : (⟨p.key, p.v⟩ : Pr) = p := rfl
    rw [ep, ih]
    refine Prod.ext (by simp) (Prod.ext ?_ rfl)
    rw [List.flatMap_cons, oneP]
    simp
    omega
theorem takeP_bytes {l : List Pr} (hr : rightP l = true) (hf : ∀ p ∈ l, p.v.fit) (t : Txt) : takeP (bytesP l ++ t) = (l, (bytesP l).length, 0) := by
  have h : incP l = true ∧ l.length ≤ 16 := by simpa [rightP] using hr
  have hn : (UInt8.ofNat l.length).toNat = l.length := u8_nat (by omega)
  have e : bytesP l ++ t = UInt8.ofNat l.length :: (l.flatMap oneP ++ t) := by simp [bytesP]
  rw [e, takeP]
  simp only [hn]
  rw [if_neg (by omega)]
  have := takesP_bytes l [UInt8.ofNat l.length] t [] hf h.1 (fun q p hq => by cases hq)
  simp only [List.singleton_append, List.nil_append, List.length_singleton] at this
  rw [this]
  refine Prod.ext rfl (Prod.ext ?_ rfl)
  simp [bytesP]
  omega
/-- None is how another's begin. -/
theorem bytesP_pre {a b : List Pr} (ha : rightP a = true) (fa : ∀ p ∈ a, p.v.fit) (hb : rightP b = true) (fb : ∀ p ∈ b, p.v.fit) {r : Txt} (h : bytesP b = bytesP a ++ r) : a = b := by
  have h1 := takeP_bytes ha fa r
  have h2 := takeP_bytes hb fb []
  rw [List.append_nil, h, h1] at h2
  exact (Prod.mk.inj h2).1
theorem bytesP_min {v w : List Pr} (hv : rightP v = true) (fv : ∀ p ∈ v, p.v.fit) (hw : rightP w = true) (fw : ∀ p ∈ w, p.v.fit) : ((bytesP v).take (min (bytesP v).length (bytesP w).length) = (bytesP w).take (min (bytesP v).length (bytesP w).length)) ↔ v = w := by
  constructor
  · intro h
    rcases Nat.le_total (bytesP v).length (bytesP w).length with hl | hl
    · rw [Nat.min_eq_left hl, List.take_length] at h
      refine bytesP_pre hv fv hw fw (r := (bytesP w).drop (bytesP v).length) ?_
      conv => rhs; rw [h]
      have : ((bytesP w).take (bytesP v).length).length = (bytesP v).length := by rw [← h]
      rw [this]
      exact (List.take_append_drop _ _).symm
    · rw [Nat.min_eq_right hl, List.take_length] at h
      refine (bytesP_pre hw fw hv fv (r := (bytesP v).drop (bytesP w).length) ?_).symm
      conv => rhs; rw [← h]
      have : ((bytesP v).take (bytesP w).length).length = (bytesP w).length := by rw [h]
      rw [this]
      exact (List.take_append_drop _ _).symm
  · intro h; rw [h]
theorem fits_pr {a : AVal} (h : Fits (.agg [.str, .int .i64, .int .i64, .str]) a) : ∃ p : Pr, a = p.a ∧ p.v.fit ∧ p.key.length ≤ 140737488351232 ∧ p.v.s.length ≤ 140737488351232 := by
  obtain ⟨cs, rfl, a1, t1, rfl, h1, a2, t2, rfl, h2, a3, t3, rfl, h3, a4, t4, rfl, h4, rfl⟩ := h
  obtain ⟨key, rfl, hk⟩ := h1
  obtain ⟨k, rfl, _, _⟩ := h2
  obtain ⟨n, rfl, n1, n2⟩ := h3
  obtain ⟨s, rfl, hs⟩ := h4
  exact ⟨⟨key, ⟨k, n, s⟩⟩, rfl, ⟨n1, n2⟩, hk, hs⟩
theorem fits_prv {b : Nat} {a : AVal} (h : Fits (.slice (.agg [.str, .int .i64, .int .i64, .str]) 4 b) a) : ∃ l : List Pr, a = .slice (prv l) 4 .ro ∧ l.length * b ≤ 140737488351232 ∧ ∀ p ∈ l, p.v.fit := by
  obtain ⟨es, rfl, h1, h2⟩ := h
  obtain ⟨ls, rfl, hx⟩ := map_of (f := Pr.a) (P := fun p => p.v.fit) fun e he => by
    obtain ⟨p, e, h, _⟩ := fits_pr (h2 e he)
    exact ⟨p, e, h⟩
  exact ⟨ls, rfl, by simpa using h1, hx⟩
end Go.AL
end

section
namespace Go.AL
set_option linter.unusedSimpArgs false
set_option linter.unusedVariables false
theorem txtV_le : ∀ (s a : Txt) (i : Nat), (txtV s a i).2.2 = 0 → (txtV s a i).2.1 ≤ i + s.length
  | [], a, i, h => by simp [txtV] at h
  | [c], a, i, h => by
    simp only [txtV] at h
    repeat' split at h
    all_goals simp at h
  | c :: d :: r, a, i, h => by
    have h1 := txtV_le r (a ++ [0]) (i + 2)
    have h2 := txtV_le (d :: r) (a ++ [c]) (i + 1)
    simp only [List.length_cons] at h2 ⊢
    unfold txtV at h ⊢
    repeat' split at h
    all_goals (try (simp at h; done))
    · rename_i e1 e2
      rw [if_pos e1, if_pos e2]; simp only; omega
    · rename_i e1 e2 e3 e4
      rw [if_pos e1, if_neg e2, if_neg e3, if_neg e4]
      have := h1 h; omega
    · rename_i e1 e2
      rw [if_neg e1, if_neg e2]
      have := h2 h; omega
theorem takeV_le (b : Txt) (h : (takeV b).2.2 = 0) : (takeV b).2.1 ≤ b.length := by
  cases b with
  | nil => simp [takeV] at h
  | cons c r =>
    unfold takeV at h ⊢
    simp only at h ⊢
    by_cases h1 : c = 2
    · rw [if_pos h1] at h ⊢
      have := txtV_le r [] 1 h
      simp only [List.length_cons]
      omega
    · rw [if_neg h1] at h ⊢
      by_cases h2 : c ≠ 1
      · rw [if_pos h2] at h; cases h
      · rw [if_neg h2] at h ⊢
        by_cases h3 : r.length < 8
        · rw [if_pos h3] at h; cases h
        · rw [if_neg h3]; simp only [List.length_cons]; omega
def resP (y : List Pr × Nat × Int) : AVal := .tuple [.slice (prv y.1) 4 .ro, .int .i64 (y.2.1 : Int), .int .i64 y.2.2]
theorem resP_err (e : Int) : Wk (.tuple [.slice [] 0 .nil, .int .i64 0, .int .i64 e]) (resP ([], 0, e)) := .tuple (.cons (Wk.nil _ _ _) (.refl _))
theorem bw_cut (b : Txt) (i j : Nat) : List.map AL.byteOf (List.take j (List.drop i (bw b))) = (b.drop i).take j := by rw [← bw_drop, ← bw_take, map_byteOf_bw]
theorem bw_cut8 (b : Txt) (i j : Nat) : (List.take j (List.drop i (bw b))).all isU8 = true := by rw [← bw_drop, ← bw_take]; exact bw_isU8 _
theorem takesP_one {b : Txt} {n at_ : Nat} {acc : List Pr} (h1 : at_ < b.length) (h2 : at_ + 1 + (b.getD at_ 0).toNat ≤ b.length)
    (h3 : ¬ (nameT ((b.drop (at_ + 1)).take (b.getD at_ 0).toNat) = false ∨ ∃ q, acc.getLast? = some q ∧ 0 ≤ cmpK q.key ((b.drop (at_ + 1)).take (b.getD at_ 0).toNat)))
    (h4 : (takeV (b.drop (at_ + 1 + (b.getD at_ 0).toNat))).2.2 = 0) : takesP b (n + 1) acc at_ =
      takesP b n (acc ++ [⟨(b.drop (at_ + 1)).take (b.getD at_ 0).toNat, (takeV (b.drop (at_ + 1 + (b.getD at_ 0).toNat))).1⟩]) (at_ + 1 + (b.getD at_ 0).toNat + (takeV (b.drop (at_ + 1 + (b.getD at_ 0).toNat))).2.1) := by
  rw [takesP, if_neg (by omega), if_neg (by omega), if_neg h3, if_neg (by simpa using h4)]
theorem takesP_v {b : Txt} {n at_ : Nat} {acc : List Pr} (h1 : at_ < b.length) (h2 : at_ + 1 + (b.getD at_ 0).toNat ≤ b.length)
    (h3 : ¬ (nameT ((b.drop (at_ + 1)).take (b.getD at_ 0).toNat) = false ∨ ∃ q, acc.getLast? = some q ∧ 0 ≤ cmpK q.key ((b.drop (at_ + 1)).take (b.getD at_ 0).toNat)))
    (h4 : (takeV (b.drop (at_ + 1 + (b.getD at_ 0).toNat))).2.2 ≠ 0) : takesP b (n + 1) acc at_ = ([], 0, (takeV (b.drop (at_ + 1 + (b.getD at_ 0).toNat))).2.2) := by
  rw [takesP, if_neg (by omega), if_neg (by omega), if_neg h3, if_pos h4]
theorem takesP_n {b : Txt} {n at_ : Nat} {acc : List Pr} (h1 : at_ < b.length) (h2 : at_ + 1 + (b.getD at_ 0).toNat ≤ b.length)
    (h3 : nameT ((b.drop (at_ + 1)).take (b.getD at_ 0).toNat) = false ∨ ∃ q, acc.getLast? = some q ∧ 0 ≤ cmpK q.key ((b.drop (at_ + 1)).take (b.getD at_ 0).toNat)) : takesP b (n + 1) acc at_ = ([], 0, 30) := by
  rw [takesP, if_neg (by omega), if_neg (by omega), if_pos h3]
theorem takesP_s {b : Txt} {n at_ : Nat} {acc : List Pr} (h : b.length ≤ at_ ∨ b.length < at_ + 1 + (b.getD at_ 0).toNat) : takesP b (n + 1) acc at_ = ([], 0, 20) := by
  rw [takesP]
  by_cases h1 : b.length ≤ at_
  · rw [if_pos h1]
  · rw [if_neg h1, if_pos (h.resolve_left h1)]
end Go.AL
namespace Go.Proofs.Ytbghpjamahgegaa
open Go.AL
set_option linter.unusedSimpArgs false
set_option linter.unusedVariables false
set_option maxRecDepth 20000
set_option maxHeartbeats 4000000
theorem take_c (b : Txt) (hb : b.length ≤ 1000000) : ACall Try.prog 22 [.slice (bw b) 1 .ro] Sto.empty fun r _ => Wk r (resP (takeP b)) := by
  refine Pt7.take_i b _ (.of [Lt.rightE, byE, V.takeE] rfl ⟨Lt.right_ok, by_ok, V.take_ok, trivial⟩) ?_
  simp only [hold_eq]
  cases b with
  | nil => exact brV_by (fun _ => resP_err 20) (fun h => by simp at h)
  | cons c r =>
    have hl : (bw (c :: r)).length = r.length + 1 := by simp
    rw [List.length_cons] at hb
    have hb0 : (bw (c :: r)).length = (c :: r).length := bw_length _
    have e0 : elemAt (bw (c :: r)) 0 = [.int .u8 (c.toNat : Int)] := elemAt_bw (c :: r) 0 (by simp)
    rw [e0]
    have e1 : AVal.intOf (List.getD [AVal.int .u8 (c.toNat : Int)] 0 .undef) = (c.toNat : Int) := rfl
    rw [e1]
    have hc8 := c.toNat_lt
    refine brV_by (fun h => ?_) (fun _ => ?_)
    · rw [hl] at h
      have : ((r.length + 1 : Nat) : Int) = 0 := by simpa using h
      omega
    refine gb_by (dt (by omega)) (gb_by rfl (brV_by (fun h => ?_) (fun h => ?_)))
    · have h16 : 16 < c.toNat := by have := of_decide_eq_true h; omega
      have : takeP (c :: r) = ([], 0, 10) := by rw [takeP]; rw [if_pos h16]
      rw [this]; exact resP_err 10
    have h16 : ¬ 16 < c.toNat := by have := of_decide_eq_false h; omega
    have hw : IntKind.i64.wrap (c.toNat : Int) = (c.toNat : Int) := wrap_i64 (by omega) (by omega)
    rw [hw]
    refine gb_by (dt (by omega)) (gb_by rfl ?_)
    have hT : takeP (c :: r) = takesP (c :: r) c.toNat [] 1 := by rw [takeP]; rw [if_neg h16]
    rw [hT]
    have hb2 : (c :: r).length ≤ 1000000 := by simpa using hb
    have hb1 : 1 ≤ (c :: r).length := by simp
    generalize c.toNat = n at *
    generalize c :: r = b at *
    clear hl e0 e1 hT hw h hc8
    refine loopV_intro (α := Nat × List Pr × Nat) (fun s => Pt7.takeL_S b s.2.1 s.2.2 n s.1) (fun s => s.1 ≤ n ∧ s.2.1.length = s.1 ∧ s.2.2 ≤ b.length ∧ (∀ p ∈ s.2.1, p.key.length ≤ 1000000) ∧ takesP b n [] 1 = takesP b (n - s.1) s.2.1 s.2.2) (fun s => n - s.1) ?_ (0, [], 1) ⟨Nat.zero_le _, rfl, hb1, (fun p hp => by cases hp), rfl⟩
    rintro ⟨i, o, a⟩ ⟨hi, hol, ha, hkl, hT⟩ L hL
    simp only at hi hol ha hkl hT
    refine Eq.mpr (Pt7.takeL_r b o a n i L _) ?_
    have hon := prv_length o
    simp only [hold_eq]
    refine brV_by (fun h => ?_) (fun h => ?_)
    · have hlt : i < n := by have := of_decide_eq_true h; omega
      have hni : n - i = (n - i - 1) + 1 := by omega
      rw [hni] at hT
      refine brV_by' (fun h => ?_) (fun h => ?_)
      · have halt : a < b.length := by
          have h : ((a : Int) == ((bw b).length : Int)) = false := h
          simp at h
          omega
        rw [elemAt_bw b a halt]
        have eg : b.getD a 0 = b[a] := by rw [List.getD_eq_getElem?_getD, List.getElem?_eq_getElem halt]; rfl
        have e1 : AVal.intOf (List.getD [AVal.int .u8 (b[a].toNat : Int)] 0 .undef) = (b[a].toNat : Int) := rfl
        have hk8 := b[a].toNat_lt
        have w1 : IntKind.i64.wrap (b[a].toNat : Int) = (b[a].toNat : Int) := wrap_i64 (by omega) (by omega)
        have w2 : IntKind.i64.wrap (IntKind.i64.wrap (((bw b).length : Int) - (a : Int)) - 1) = ((b.length : Int) - a - 1) := by rw [hb0, wrap_i64 (n := (b.length : Int) - a) (by omega) (by omega), wrap_i64 (by omega) (by omega)]
        have w3 : IntKind.i64.wrap ((a : Int) + 1) = ((a + 1 : Nat) : Int) := by rw [wrap_i64 (by omega) (by omega)]; rfl
        have w4 : IntKind.i64.wrap (((a + 1 : Nat) : Int) + (b[a].toNat : Int)) = ((a + 1 + b[a].toNat : Nat) : Int) := by rw [wrap_i64 (by omega) (by omega)]; omega
        rw [e1, w1, w2, w3, w4]
        rw [← eg] at w4 hk8 ⊢
        have hst := takesP_s (b := b) (n := n - i - 1) (at_ := a) (acc := o)
        have hn' := takesP_n (b := b) (n := n - i - 1) (at_ := a) (acc := o) halt
        have hv' := takesP_v (b := b) (n := n - i - 1) (at_ := a) (acc := o) halt
        have ho' := takesP_one (b := b) (n := n - i - 1) (at_ := a) (acc := o) halt
        generalize (b.getD a 0).toNat = k at *
        refine gb_by (dt (by omega)) (gb_by rfl (brV_by (fun h => ?_) (fun h => ?_)))
        · have h : (b.length : Int) - a - 1 < (k : Int) := of_decide_eq_true h
          rw [hT, hst (.inr (by omega))]
          exact resP_err 20
        have hk : a + 1 + k ≤ b.length := by
          have h : ¬ (b.length : Int) - a - 1 < (k : Int) := of_decide_eq_false h
          omega
        replace hn' := hn' hk
        replace hv' := hv' hk
        replace ho' := ho' hk
        have hsub : Int.toNat ((a + 1 + k : Nat) : Int) - Int.toNat ((a + 1 : Nat) : Int) = k := by omega
        rw [hsub, Int.toNat_natCast]
        refine gb_by (dt (by omega)) (gb_by rfl (gb_by (dt (by omega)) (gb_by (dt (bw_cut8 _ _ _)) ?_)))
        intro m hm
        rw [bw_cut] at hm
        have hml : m.length = k := by rw [hm, List.length_take, List.length_drop]; omega
        have w5 : IntKind.i64.wrap ((a : Int) + IntKind.i64.wrap (1 + (m.length : Int))) = ((a + 1 + k : Nat) : Int) := by
          rw [hml, wrap_i64 (n := 1 + (k : Int)) (by omega) (by omega), wrap_i64 (by omega) (by omega)]; omega
        rw [w5, hb0, Int.toNat_natCast, Int.toNat_natCast, bw_cut, List.take_of_length_le (by rw [List.length_drop]; omega)]
        rw [← hm] at hn' hv' ho'
        have cm : ([AVal.str m].all strIs && (Lt.lenOk 1 && [AVal.str m].all Lt.strOk)) = true := and_tt rfl (and_tt (Lt.lenOk_mk (by omega)) (Lt.strs_mk (l := [m]) (fun s hs => by rw [List.mem_singleton.1 hs]; omega)))
        refine gb_by cm ?_
        have h1m : [m].all nameT = nameT m := by simp
        rw [h1m]
        have hlast : ∀ h : 0 < i, o.getLast? = some (o[i - 1]'(by omega)) := fun h => by
          subst hol
          rw [List.getLast?_eq_getElem?, List.getElem?_eq_getElem (by omega)]
        have hwi : ∀ h : 0 < i, IntKind.i64.wrap ((i : Int) - 1) = ((i - 1 : Nat) : Int) := fun h => by rw [wrap_i64 (by omega) (by omega)]; omega
        refine brV_by' (fun h => ?_) (fun h => ?_)
        rotate_left
        · have hnm : nameT m = false := by simpa using h
          rw [hT, hn' (.inl hnm)]
          exact resP_err 30
        have hnm : nameT m = true := by simpa using h
        have hbt : ((List.take (b.length - (a + 1 + k)) (List.drop (a + 1 + k) (bw b))).all byteIs && decide ((List.take (b.length - (a + 1 + k)) (List.drop (a + 1 + k) (bw b))).length ≤ 1000000)) = true := by
          rw [← bw_drop, ← bw_take]
          exact and_tt (bw_byteIs _) (dt (by rw [bw_length, List.length_take, List.length_drop]; omega))
        refine brV_by (fun h => ?_) (fun h => ?_)
        · have hi0 : 0 < i := by have := of_decide_eq_true h; omega
          rw [hwi hi0, elemAt_prv o (i - 1) (by omega)]
          refine gb_by (dt (by omega)) (gb_by rfl ?_)
          intro y hy
          have hy : y = cmpK (o[i - 1]'(by omega)).key m := hy
          refine gb_by (and_tt (Lt.lenT_mk (hkl _ (List.getElem_mem (by omega)))) (Lt.lenT_mk (by omega))) (brV_by (fun h => ?_) (fun h => ?_))
          · have h : 0 ≤ y := of_decide_eq_true h
            rw [hT, hn' (.inr ⟨_, hlast hi0, by rw [← hy]; exact h⟩)]
            exact resP_err 30
          · have h : ¬ 0 ≤ y := of_decide_eq_false h
            have hnl : ¬ (nameT m = false ∨ ∃ q, o.getLast? = some q ∧ 0 ≤ cmpK q.key m) := by
              rintro (h1 | ⟨q, hq, h1⟩)
              · rw [hnm] at h1; cases h1
              · rw [hlast hi0] at hq; cases hq; rw [← hy] at h1; exact h h1
            refine gb_by (dt (by omega)) ?_
            intro y1 hy1
            have hv2 := hv' hnl
            have ho2 := ho' hnl
            rw [← hy1] at hv2 ho2
            refine gb_by hbt (brV_by (fun h => ?_) (fun h => ?_))
            · have hne : y1.2.2 ≠ 0 := by simpa using h
              rw [hT, hv2 hne]
              exact resP_err _
            · have h0 : y1.2.2 = 0 := by simpa using h
              have hle := takeV_le (b.drop (a + 1 + k))
              rw [← hy1, List.length_drop] at hle
              have hle := hle h0
              have w6 : IntKind.i64.wrap (((a + 1 + k : Nat) : Int) + (y1.2.1 : Int)) = ((a + 1 + k + y1.2.1 : Nat) : Int) := by rw [wrap_i64 (by omega) (by omega)]; omega
              have e5 : prv o ++ [AVal.agg [.str m, .int .i64 y1.1.k, .int .i64 y1.1.n, .str y1.1.s]] = prv (o ++ [⟨m, y1.1⟩]) := by rw [prv_append]; rfl
              refine gb_by (dt ⟨dt ⟨by trivial, by trivial, by omega, by omega⟩, by trivial⟩) ?_
              rw [w6, e5, setOwn_e1, i64_succ hlt (by omega), show (prv o).length + 1 = (prv (o ++ [⟨m, y1.1⟩])).length by simp]
              refine hL (i + 1, o ++ [⟨m, y1.1⟩], a + 1 + k + y1.2.1) ⟨hlt, by simp only [List.length_append, List.length_singleton]; omega, by simp only; omega, fun q hq => ?_, ?_⟩ (by simp only; omega)
              · rcases List.mem_append.1 hq with h | h
                · exact hkl q h
                · rw [List.mem_singleton.1 h]; show m.length ≤ 1000000; omega
              · rw [hT, ho2 h0]
                rfl
        · have hi0 : i = 0 := by have := of_decide_eq_false h; omega
          have hnl : ¬ (nameT m = false ∨ ∃ q, o.getLast? = some q ∧ 0 ≤ cmpK q.key m) := by
            rintro (h1 | ⟨q, hq, h1⟩)
            · rw [hnm] at h1; cases h1
            · have : o = [] := List.eq_nil_of_length_eq_zero (by omega)
              rw [this] at hq; cases hq
          refine gb_by (dt (by omega)) ?_
          intro y1 hy1
          have hv2 := hv' hnl
          have ho2 := ho' hnl
          rw [← hy1] at hv2 ho2
          refine gb_by hbt (brV_by (fun h => ?_) (fun h => ?_))
          · have hne : y1.2.2 ≠ 0 := by simpa using h
            rw [hT, hv2 hne]
            exact resP_err _
          · have h0 : y1.2.2 = 0 := by simpa using h
            have hle := takeV_le (b.drop (a + 1 + k))
            rw [← hy1, List.length_drop] at hle
            have hle := hle h0
            have w6 : IntKind.i64.wrap (((a + 1 + k : Nat) : Int) + (y1.2.1 : Int)) = ((a + 1 + k + y1.2.1 : Nat) : Int) := by rw [wrap_i64 (by omega) (by omega)]; omega
            have e5 : prv o ++ [AVal.agg [.str m, .int .i64 y1.1.k, .int .i64 y1.1.n, .str y1.1.s]] = prv (o ++ [⟨m, y1.1⟩]) := by rw [prv_append]; rfl
            refine gb_by (dt ⟨dt ⟨by trivial, by trivial, by omega, by omega⟩, by trivial⟩) ?_
            rw [w6, e5, setOwn_e1, i64_succ hlt (by omega), show (prv o).length + 1 = (prv (o ++ [⟨m, y1.1⟩])).length by simp]
            refine hL (i + 1, o ++ [⟨m, y1.1⟩], a + 1 + k + y1.2.1) ⟨hlt, by simp only [List.length_append, List.length_singleton]; omega, by simp only; omega, fun q hq => ?_, ?_⟩ (by simp only; omega)
            · rcases List.mem_append.1 hq with h | h
              · exact hkl q h
              · rw [List.mem_singleton.1 h]; show m.length ≤ 1000000; omega
            · rw [hT, ho2 h0]
              rfl
      · have h : (a : Int) = ((bw b).length : Int) := by simpa using h
        rw [hT, takesP_s (.inl (by omega))]
        exact resP_err 20
    · have hge : i = n := by have := of_decide_eq_false h; omega
      rw [hge, Nat.sub_self] at hT
      have hT : takesP b n [] 1 = (o, a, 0) := hT
      refine leaveTo (toCut (Eq.mpr (Pt7.takeF_r o a _) ?_))
      rw [hT]
      exact .tuple (.cons (Wk.ro _ _ _) (.refl _))
theorem takeR_c (b : Txt) (hb : b.length ≤ 1000000) : ACall Try.prog 23 [.slice (bw b) 1 .ro] Sto.empty fun r _ => Wk r (resP (takeP b)) := by
  refine Pt7.takeR_i b _ (.of [Lt.rightRE, Lt.compareRE, V.takeRE] rfl ⟨Lt.rightR_ok, Lt.compareR_ok, V.takeR_ok, trivial⟩) ?_
  simp only [hold_eq]
  cases b with
  | nil => exact brV_by (fun _ => resP_err 20) (fun h => by simp at h)
  | cons c r =>
    have hl : (bw (c :: r)).length = r.length + 1 := by simp
    rw [List.length_cons] at hb
    have hb0 : (bw (c :: r)).length = (c :: r).length := bw_length _
    have e0 : elemAt (bw (c :: r)) 0 = [.int .u8 (c.toNat : Int)] := elemAt_bw (c :: r) 0 (by simp)
    rw [e0]
    have e1 : AVal.intOf (List.getD [AVal.int .u8 (c.toNat : Int)] 0 .undef) = (c.toNat : Int) := rfl
    rw [e1]
    have hc8 := c.toNat_lt
    refine brV_by (fun h => ?_) (fun _ => ?_)
    · rw [hl] at h
      have : ((r.length + 1 : Nat) : Int) = 0 := by simpa using h
      omega
    have hw : IntKind.i64.wrap (c.toNat : Int) = (c.toNat : Int) := wrap_i64 (by omega) (by omega)
    rw [hw]
    refine gb_by (dt (by omega)) (gb_by rfl (brV_by (fun h => ?_) (fun h => ?_)))
    · have h16 : 16 < c.toNat := by have := of_decide_eq_true h; omega
      have : takeP (c :: r) = ([], 0, 10) := by rw [takeP]; rw [if_pos h16]
      rw [this]; exact resP_err 10
    have h16 : ¬ 16 < c.toNat := by have := of_decide_eq_false h; omega
    have hT : takeP (c :: r) = takesP (c :: r) c.toNat [] 1 := by rw [takeP]; rw [if_neg h16]
    rw [hT]
    have hb2 : (c :: r).length ≤ 1000000 := by simpa using hb
    have hb1 : 1 ≤ (c :: r).length := by simp
    generalize c.toNat = n at *
    generalize c :: r = b at *
    clear hl e0 e1 hT hw h hc8
    refine loopV_intro (α := Nat × List Pr × Nat) (fun s => Pt7.takeRL_S b s.2.1 n s.2.2 s.1) (fun s => s.1 ≤ n ∧ s.2.1.length = s.1 ∧ s.2.2 ≤ b.length ∧ (∀ p ∈ s.2.1, p.key.length ≤ 1000000) ∧ takesP b n [] 1 = takesP b (n - s.1) s.2.1 s.2.2) (fun s => n - s.1) ?_ (0, [], 1) ⟨Nat.zero_le _, rfl, hb1, (fun p hp => by cases hp), rfl⟩
    rintro ⟨i, o, a⟩ ⟨hi, hol, ha, hkl, hT⟩ L hL
    simp only at hi hol ha hkl hT
    refine Eq.mpr (Pt7.takeRL_r b o n a i L _) ?_
    have hon := prv_length o
    simp only [hold_eq]
    refine brV_by (fun h => ?_) (fun h => ?_)
    · have hlt : i < n := by have := of_decide_eq_true h; omega
      have hni : n - i = (n - i - 1) + 1 := by omega
      rw [hni] at hT
      refine brV_by (fun h => ?_) (fun h => ?_)
      · have h : ((bw b).length : Int) ≤ (a : Int) := of_decide_eq_true h
        rw [hT, takesP_s (.inl (by omega))]
        exact resP_err 20
      · have halt : a < b.length := by
          have h : ¬ ((bw b).length : Int) ≤ (a : Int) := of_decide_eq_false h
          omega
        rw [elemAt_bw b a halt]
        have eg : b.getD a 0 = b[a] := by rw [List.getD_eq_getElem?_getD, List.getElem?_eq_getElem halt]; rfl
        have e1 : AVal.intOf (List.getD [AVal.int .u8 (b[a].toNat : Int)] 0 .undef) = (b[a].toNat : Int) := rfl
        have hk8 := b[a].toNat_lt
        have w1 : IntKind.i64.wrap (b[a].toNat : Int) = (b[a].toNat : Int) := wrap_i64 (by omega) (by omega)
        have w3 : IntKind.i64.wrap ((a : Int) + 1) = ((a + 1 : Nat) : Int) := by rw [wrap_i64 (by omega) (by omega)]; rfl
        have w4 : IntKind.i64.wrap (((a + 1 : Nat) : Int) + (b[a].toNat : Int)) = ((a + 1 + b[a].toNat : Nat) : Int) := by rw [wrap_i64 (by omega) (by omega)]; omega
        rw [e1, w1, w3]
        refine gb_by (dt (by omega)) (gb_by rfl ?_)
        intro m0 hm0
        subst hm0
        rw [w4]
        rw [← eg] at w4 hk8 ⊢
        have hst := takesP_s (b := b) (n := n - i - 1) (at_ := a) (acc := o)
        have hn' := takesP_n (b := b) (n := n - i - 1) (at_ := a) (acc := o) halt
        have hv' := takesP_v (b := b) (n := n - i - 1) (at_ := a) (acc := o) halt
        have ho' := takesP_one (b := b) (n := n - i - 1) (at_ := a) (acc := o) halt
        generalize (b.getD a 0).toNat = k at *
        refine brV_by (fun h => ?_) (fun h => ?_)
        · have h : ((bw b).length : Int) < ((a + 1 + k : Nat) : Int) := of_decide_eq_true h
          rw [hT, hst (.inr (by omega))]
          exact resP_err 20
        have hk : a + 1 + k ≤ b.length := by
          have h : ¬ ((bw b).length : Int) < ((a + 1 + k : Nat) : Int) := of_decide_eq_false h
          omega
        replace hn' := hn' hk
        replace hv' := hv' hk
        replace ho' := ho' hk
        have hsub : Int.toNat ((a + 1 + k : Nat) : Int) - Int.toNat ((a + 1 : Nat) : Int) = k := by omega
        rw [hsub, Int.toNat_natCast]
        refine gb_by (dt (by omega)) (gb_by (dt (bw_cut8 _ _ _)) ?_)
        rw [bw_cut]
        obtain ⟨m, hm⟩ : ∃ m, m = (b.drop (a + 1)).take k := ⟨_, rfl⟩
        rw [← hm]
        have hml : m.length = k := by rw [hm, List.length_take, List.length_drop]; omega
        rw [← hm] at hn' hv' ho'
        refine gb_by (Lt.lenT_mk (by omega)) ?_
        rw [hb0, Int.toNat_natCast, Int.toNat_natCast, bw_cut, List.take_of_length_le (show (b.drop (a + 1 + k)).length ≤ b.length - (a + 1 + k) by rw [List.length_drop]; omega)]
        have hlast : ∀ h : 0 < i, o.getLast? = some (o[i - 1]'(by omega)) := fun h => by
          subst hol
          rw [List.getLast?_eq_getElem?, List.getElem?_eq_getElem (by omega)]
        have hwi : ∀ h : 0 < i, IntKind.i64.wrap ((i : Int) - 1) = ((i - 1 : Nat) : Int) := fun h => by rw [wrap_i64 (by omega) (by omega)]; omega
        refine brV_by' (fun h => ?_) (fun h => ?_)
        rotate_left
        · have hnm : nameT m = false := by simpa using h
          rw [hT, hn' (.inl hnm)]
          exact resP_err 30
        have hnm : nameT m = true := by simpa using h
        have hbt : ((List.take (b.length - (a + 1 + k)) (List.drop (a + 1 + k) (bw b))).all byteIs && decide ((List.take (b.length - (a + 1 + k)) (List.drop (a + 1 + k) (bw b))).length ≤ 1000000)) = true := by
          rw [← bw_drop, ← bw_take]
          exact and_tt (bw_byteIs _) (dt (by rw [bw_length, List.length_take, List.length_drop]; omega))
        refine brV_by (fun h => ?_) (fun h => ?_)
        · have hi0 : 0 < i := by have := of_decide_eq_true h; omega
          rw [hwi hi0, elemAt_prv o (i - 1) (by omega)]
          refine gb_by (dt (by omega)) (gb_by rfl ?_)
          intro y hy
          have hy : y = cmpK (o[i - 1]'(by omega)).key m := hy
          refine gb_by (and_tt (Lt.lenT_mk (hkl _ (List.getElem_mem (by omega)))) (Lt.lenT_mk (by omega))) (brV_by (fun h => ?_) (fun h => ?_))
          · have h : 0 ≤ y := of_decide_eq_true h
            rw [hT, hn' (.inr ⟨_, hlast hi0, by rw [← hy]; exact h⟩)]
            exact resP_err 30
          · have h : ¬ 0 ≤ y := of_decide_eq_false h
            have hnl : ¬ (nameT m = false ∨ ∃ q, o.getLast? = some q ∧ 0 ≤ cmpK q.key m) := by
              rintro (h1 | ⟨q, hq, h1⟩)
              · rw [hnm] at h1; cases h1
              · rw [hlast hi0] at hq; cases hq; rw [← hy] at h1; exact h h1
            refine gb_by (dt (by omega)) ?_
            intro y1 hy1
            have hv2 := hv' hnl
            have ho2 := ho' hnl
            rw [← hy1] at hv2 ho2
            refine gb_by hbt (brV_by (fun h => ?_) (fun h => ?_))
            · have hne : y1.2.2 ≠ 0 := by simpa using h
              rw [hT, hv2 hne]
              exact resP_err _
            · have h0 : y1.2.2 = 0 := by simpa using h
              have hle := takeV_le (b.drop (a + 1 + k))
              rw [← hy1, List.length_drop] at hle
              have hle := hle h0
              have w6 : IntKind.i64.wrap (((a + 1 + k : Nat) : Int) + (y1.2.1 : Int)) = ((a + 1 + k + y1.2.1 : Nat) : Int) := by rw [wrap_i64 (by omega) (by omega)]; omega
              have e5 : prv o ++ [AVal.agg [.str m, .int .i64 y1.1.k, .int .i64 y1.1.n, .str y1.1.s]] = prv (o ++ [⟨m, y1.1⟩]) := by rw [prv_append]; rfl
              refine gb_by (dt ⟨dt ⟨by trivial, by trivial, by omega, by omega⟩, by trivial⟩) ?_
              rw [w6, e5, setOwn_e1, i64_succ hlt (by omega), show (prv o).length + 1 = (prv (o ++ [⟨m, y1.1⟩])).length by simp]
              refine hL (i + 1, o ++ [⟨m, y1.1⟩], a + 1 + k + y1.2.1) ⟨hlt, by simp only [List.length_append, List.length_singleton]; omega, by simp only; omega, fun q hq => ?_, ?_⟩ (by simp only; omega)
              · rcases List.mem_append.1 hq with h | h
                · exact hkl q h
                · rw [List.mem_singleton.1 h]; show m.length ≤ 1000000; omega
              · rw [hT, ho2 h0]
                rfl
        · have hi0 : i = 0 := by have := of_decide_eq_false h; omega
          have hnl : ¬ (nameT m = false ∨ ∃ q, o.getLast? = some q ∧ 0 ≤ cmpK q.key m) := by
            rintro (h1 | ⟨q, hq, h1⟩)
            · rw [hnm] at h1; cases h1
            · have : o = [] := List.eq_nil_of_length_eq_zero (by omega)
              rw [this] at hq; cases hq
          refine gb_by (dt (by omega)) ?_
          intro y1 hy1
          have hv2 := hv' hnl
          have ho2 := ho' hnl
          rw [← hy1] at hv2 ho2
          refine gb_by hbt (brV_by (fun h => ?_) (fun h => ?_))
          · have hne : y1.2.2 ≠ 0 := by simpa using h
            rw [hT, hv2 hne]
            exact resP_err _
          · have h0 : y1.2.2 = 0 := by simpa using h
            have hle := takeV_le (b.drop (a + 1 + k))
            rw [← hy1, List.length_drop] at hle
            have hle := hle h0
            have w6 : IntKind.i64.wrap (((a + 1 + k : Nat) : Int) + (y1.2.1 : Int)) = ((a + 1 + k + y1.2.1 : Nat) : Int) := by rw [wrap_i64 (by omega) (by omega)]; omega
            have e5 : prv o ++ [AVal.agg [.str m, .int .i64 y1.1.k, .int .i64 y1.1.n, .str y1.1.s]] = prv (o ++ [⟨m, y1.1⟩]) := by rw [prv_append]; rfl
            refine gb_by (dt ⟨dt ⟨by trivial, by trivial, by omega, by omega⟩, by trivial⟩) ?_
            rw [w6, e5, setOwn_e1, i64_succ hlt (by omega), show (prv o).length + 1 = (prv (o ++ [⟨m, y1.1⟩])).length by simp]
            refine hL (i + 1, o ++ [⟨m, y1.1⟩], a + 1 + k + y1.2.1) ⟨hlt, by simp only [List.length_append, List.length_singleton]; omega, by simp only; omega, fun q hq => ?_, ?_⟩ (by simp only; omega)
            · rcases List.mem_append.1 hq with h | h
              · exact hkl q h
              · rw [List.mem_singleton.1 h]; show m.length ≤ 1000000; omega
            · rw [hT, ho2 h0]
              rfl
    · have hge : i = n := by have := of_decide_eq_false h; omega
      rw [hge, Nat.sub_self] at hT
      have hT : takesP b n [] 1 = (o, a, 0) := hT
      refine leaveTo (toCut (Eq.mpr (Pt7.takeRF_r o a _) ?_))
      rw [hT]
      exact .tuple (.cons (Wk.ro _ _ _) (.refl _))
end Go.Proofs.Ytbghpjamahgegaa
end

section
namespace Go.AL
set_option linter.unusedSimpArgs false
set_option linter.unusedVariables false
theorem runes_inj : ∀ (n : Nat) (a b : Txt), a.length ≤ n → (∀ r ∈ runeL a, r ≤ 591) → runeL a = runeL b → a = b
  | 0, a, b, h, hr, e => by
    have h0 : a = [] := List.eq_nil_of_length_eq_zero (by omega)
    subst h0
    by_cases hb : b = []
    · exact hb.symm
    · rw [runeL_nil, runeL_cons hb] at e; cases e
  | n + 1, a, b, h, hr, e => by
    by_cases h0 : a = []
    · subst h0
      by_cases hb : b = []
      · exact hb.symm
      · rw [runeL_nil, runeL_cons hb] at e; cases e
    by_cases hb : b = []
    · subst hb
      rw [runeL_nil, runeL_cons h0] at e; cases e
    rw [runeL_cons h0] at hr e
    rw [runeL_cons hb] at e
    obtain ⟨e1, e2⟩ := List.cons.inj e
    have h1 := hr _ List.mem_cons_self
    have e1' : (Lib.decodeL a).1 = (Lib.decodeL b).1 := by omega
    have la := Lib.runeLen_decode a (by omega)
    have lb := Lib.runeLen_decode b (by omega)
    have ew : (Lib.decodeL a).2 = (Lib.decodeL b).2 := by rw [e1'] at la; omega
    have wa := Lib.decodeL_width a
    have ta := Lib.encode_decode a h0 (by omega)
    have tb := Lib.encode_decode b hb (by omega)
    have hd := runes_inj n (a.drop (Lib.decodeL a).2) (b.drop (Lib.decodeL b).2) (by rw [List.length_drop]; omega) (fun r hm => hr r (List.mem_cons_of_mem _ hm)) e2
    rw [← List.take_append_drop (Lib.decodeL a).2 a, ← List.take_append_drop (Lib.decodeL b).2 b, hd, ← ta, ← tb, e1']
theorem name_runes {s : Txt} (h : nameT s = true) : ∀ r ∈ runeL s, r ≤ 591 := by
  unfold nameT at h
  generalize runeL s = l at h
  cases l with
  | nil => cases h
  | cons r l =>
    simp only [nameR, Bool.and_eq_true, decide_eq_true_eq, List.all_eq_true, Bool.or_eq_true] at h
    obtain ⟨⟨h1, h2⟩, h3⟩ := h
    have lb : ∀ x, letB x = true → x ≤ 591 := fun x hx => by simp only [letB, decide_eq_true_eq] at hx; omega
    have db : ∀ x, digB x = true → x ≤ 591 := fun x hx => by simp only [digB, decide_eq_true_eq] at hx; omega
    intro x hx
    rcases List.mem_cons.1 hx with rfl | hx
    · exact lb _ h1
    · rcases h2 x hx with h | h
      · exact lb _ h
      · exact db _ h
theorem cmpK_eq {a b : Txt} (h : nameT a = true) (e : cmpK a b = 0) : a = b := runes_inj _ a b (Nat.le_refl _) (name_runes h) (cmpR_eq e)
theorem okP_name {p : Pr} (h : okP p = true) : nameT p.key = true := by simp [okP] at h; exact h.1
theorem okP_val {p : Pr} (h : okP p = true) : okV p.v = true := by simp [okP] at h; exact h.2
theorem getP_cons (p : Pr) (l : List Pr) (key : Txt) : getP (p :: l) key = if p.key = key then some p else getP l key := by
  unfold getP
  rw [List.find?_cons]
  by_cases h : p.key = key
  · rw [if_pos h, h, beq_self_eq_true]
  · rw [if_neg h, beq_false_of_ne h]
theorem getP_nil (key : Txt) : getP [] key = none := rfl
theorem getP_put (p : Pr) (hp : okP p = true) (key : Txt) : ∀ l, incP l = true → getP (putP l p) key = if p.key = key then some p else getP l key
  | [], _ => by show getP [p] key = _; rw [getP_cons]
  | x :: l, h => by
    obtain ⟨h1, h2, h3⟩ := (incP_cons x l).1 h
    simp only [putP]
    split
    · rename_i hc
      have hne : x.key ≠ p.key := fun e => by rw [e, cmpK_self] at hc; omega
      rw [getP_cons, getP_put p hp key l h2, getP_cons]
      by_cases hx : x.key = key
      · rw [if_pos hx, if_pos hx, if_neg (fun e => hne (hx.trans e.symm))]
      · rw [if_neg hx, if_neg hx]
    · split
      · rename_i h0
        have e := cmpK_eq (okP_name h1) h0
        rw [getP_cons, getP_cons, e]
        by_cases hx : p.key = key
        · rw [if_pos hx, if_pos hx]
        · rw [if_neg hx, if_neg hx, if_neg hx]
      · rw [getP_cons]
/-- What a name has behind new properties. -/
def updP (o : Option Pr) (l : List Pr) (key : Txt) : Option Pr := l.foldl (fun o p => if p.key = key then some p else o) o
theorem updP_cons (o : Option Pr) (p : Pr) (l : List Pr) (key : Txt) : updP o (p :: l) key = updP (if p.key = key then some p else o) l key := rfl
theorem updP_append (o : Option Pr) (a b : List Pr) (key : Txt) : updP o (a ++ b) key = updP (updP o a key) b key := List.foldl_append
theorem laysP_ok : ∀ (l acc : List Pr), (laysP acc l).2 = 0 ↔ ∀ p ∈ l, okP p = true
  | [], acc => by simp [laysP]
  | p :: l, acc => by
    cases hn : nameT p.key with
    | false =>
      rw [laysP_name hn]
      constructor
      · intro h; cases h
      · intro h; have := okP_name (h p List.mem_cons_self); rw [hn] at this; cases this
    | true =>
      cases hv : okV p.v with
      | false =>
        rw [laysP_val hn hv]
        constructor
        · intro h; cases h
        · intro h; have := okP_val (h p List.mem_cons_self); rw [hv] at this; cases this
      | true =>
        rw [laysP_put hn hv, laysP_ok l]
        constructor
        · intro h q hq
          rcases List.mem_cons.1 hq with rfl | hq
          · simp [okP, hn, hv]
          · exact h q hq
        · exact fun h q hq => h q (List.mem_cons_of_mem _ hq)
theorem laysP_step {p : Pr} (h : okP p = true) (acc l : List Pr) : laysP acc (p :: l) = laysP (putP acc p) l := laysP_put (okP_name h) (okP_val h) acc l
theorem laysP_inc : ∀ (l acc : List Pr), (∀ p ∈ l, okP p = true) → incP acc = true → incP (laysP acc l).1 = true
  | [], acc, _, h => h
  | p :: l, acc, hl, h => by
    rw [laysP_step (hl p List.mem_cons_self)]
    exact laysP_inc l _ (fun q hq => hl q (List.mem_cons_of_mem _ hq)) (incP_put p (hl p List.mem_cons_self) acc h)
theorem laysP_get (key : Txt) : ∀ (l acc : List Pr), (∀ p ∈ l, okP p = true) → incP acc = true → getP (laysP acc l).1 key = updP (getP acc key) l key
  | [], acc, _, h => rfl
  | p :: l, acc, hl, h => by
    rw [laysP_step (hl p List.mem_cons_self), laysP_get key l _ (fun q hq => hl q (List.mem_cons_of_mem _ hq)) (incP_put p (hl p List.mem_cons_self) acc h), getP_put p (hl p List.mem_cons_self) key acc h]
    rfl
theorem laysP_append : ∀ (a b acc : List Pr), (∀ p ∈ a, okP p = true) → laysP acc (a ++ b) = laysP (laysP acc a).1 b
  | [], b, acc, _ => rfl
  | p :: a, b, acc, h => by
    rw [List.cons_append, laysP_step (h p List.mem_cons_self), laysP_step (h p List.mem_cons_self)]
    exact laysP_append a b _ fun q hq => h q (List.mem_cons_of_mem _ hq)
theorem laysP_mem (x : Pr) : ∀ (l acc : List Pr), x ∈ (laysP acc l).1 → x ∈ acc ∨ x ∈ l
  | [], acc, h => .inl h
  | p :: l, acc, h => by
    by_cases hp : okP p = true
    · rw [laysP_step hp] at h
      rcases laysP_mem x l _ h with h | h
      · rcases putP_mem p x acc h with rfl | h
        · exact .inr List.mem_cons_self
        · exact .inl h
      · exact .inr (List.mem_cons_of_mem _ h)
    · cases hn : nameT p.key with
      | false => rw [laysP_name hn] at h; cases h
      | true =>
        cases hv : okV p.v with
        | false => rw [laysP_val hn hv] at h; cases h
        | true => exact (hp (by simp [okP, hn, hv])).elim
theorem rightP_iff {l : List Pr} : rightP l = true ↔ incP l = true ∧ l.length ≤ 16 := by simp [rightP]
/-- What Set says, where it does not refuse. -/
theorem setP_of {l ns : List Pr} (h : (setP l ns).2 = 0) : rightP l = true ∧ (∀ p ∈ ns, okP p = true) ∧ (setP l ns).1 = (laysP l ns).1 ∧ (laysP l ns).1.length ≤ 16 := by
  unfold setP at h ⊢
  by_cases h1 : rightP l = false
  · rw [if_pos h1] at h; cases h
  rw [if_neg h1] at h ⊢
  by_cases h2 : (laysP l ns).2 ≠ 0
  · rw [if_pos h2] at h; exact (h2 h).elim
  rw [if_neg h2] at h ⊢
  by_cases h3 : 16 < (laysP l ns).1.length
  · rw [if_pos h3] at h; cases h
  rw [if_neg h3]
  exact ⟨by simpa using h1, (laysP_ok ns l).1 (by simpa using h2), rfl, by omega⟩
theorem setP_mk {l ns : List Pr} (h1 : rightP l = true) (h2 : ∀ p ∈ ns, okP p = true) (h3 : (laysP l ns).1.length ≤ 16) : setP l ns = ((laysP l ns).1, 0) := by
  unfold setP
  rw [if_neg (by rw [h1]; simp), if_neg (by simpa using (laysP_ok ns l).2 h2), if_neg (by omega)]
theorem setP_right {l ns : List Pr} (h : (setP l ns).2 = 0) : rightP (setP l ns).1 = true := by
  obtain ⟨h1, h2, h3, h4⟩ := setP_of h
  rw [h3]
  exact rightP_iff.2 ⟨laysP_inc ns l h2 (rightP_iff.1 h1).1, h4⟩
theorem setP_le (l ns : List Pr) : (setP l ns).1.length ≤ 16 := by
  by_cases h : (setP l ns).2 = 0
  · exact (rightP_iff.1 (setP_right h)).2
  · unfold setP at h ⊢
    repeat' split
    all_goals first | exact Nat.zero_le _ | (show (laysP l ns).1.length ≤ 16; omega)
theorem setP_mem {l ns : List Pr} {x : Pr} (h : x ∈ (setP l ns).1) : x ∈ l ∨ x ∈ ns := by
  unfold setP at h
  repeat' split at h
  · cases h
  · cases h
  · cases h
  · exact laysP_mem x ns l h
theorem dropP_get (l : List Pr) (key : Txt) : getP (dropP l [key]) key = none := by
  unfold getP dropP
  rw [List.find?_eq_none]
  intro p hp
  have := (List.mem_filter.1 hp).2
  simp at this
  simpa using this
/-- In order: pairwise. -/
theorem incP_pw : ∀ l : List Pr, incP l = true ↔ (∀ p ∈ l, okP p = true) ∧ l.Pairwise (fun p q => cmpK p.key q.key < 0)
  | [] => by simp [incP]
  | p :: l => by
    rw [incP_cons, incP_pw l, List.pairwise_cons]
    constructor
    · rintro ⟨h1, ⟨h2, h3⟩, h4⟩
      refine ⟨fun q hq => ?_, fun q hq => ?_, h3⟩
      · rcases List.mem_cons.1 hq with rfl | hq
        · exact h1
        · exact h2 q hq
      · cases l with
        | nil => cases hq
        | cons x l =>
          have hx := h4 x rfl
          rcases List.mem_cons.1 hq with rfl | hq
          · exact hx
          · exact cmpK_trans hx ((List.pairwise_cons.1 h3).1 q hq)
    · rintro ⟨h1, h2, h3⟩
      exact ⟨h1 p List.mem_cons_self, ⟨fun q hq => h1 q (List.mem_cons_of_mem _ hq), h3⟩, fun q hq => h2 q (List.mem_of_head? hq)⟩
theorem dropP_inc {l : List Pr} (ks : List Txt) (h : incP l = true) : incP (dropP l ks) = true := by
  obtain ⟨h1, h2⟩ := (incP_pw l).1 h
  exact (incP_pw _).2 ⟨fun p hp => h1 p (List.mem_filter.1 hp).1, h2.sublist List.filter_sublist⟩
theorem dropP_right {l : List Pr} (ks : List Txt) (h : rightP l = true) : rightP (dropP l ks) = true := by
  obtain ⟨h1, h2⟩ := rightP_iff.1 h
  exact rightP_iff.2 ⟨dropP_inc ks h1, Nat.le_trans (dropP_length_le _ _) h2⟩
theorem dropP_one : ∀ (l : List Pr) (key : Txt), incP l = true → (dropP l [key]).length + (if (getP l key).isSome then 1 else 0) = l.length
  | [], key, _ => rfl
  | p :: l, key, h => by
    obtain ⟨h1, h2, h3⟩ := (incP_cons p l).1 h
    have ih := dropP_one l key h2
    rw [getP_cons]
    by_cases hk : p.key = key
    · have hn : ∀ q ∈ l, q.key ≠ key := fun q hq e => by
        have := incP_head h q hq
        rw [hk, e, cmpK_self] at this
        omega
      have hd : dropP l [key] = l := by
        unfold dropP
        rw [List.filter_eq_self]
        intro q hq
        simpa using hn q hq
      have hd2 : dropP (p :: l) [key] = dropP l [key] := by
        unfold dropP
        rw [List.filter_cons_of_neg (by simp [hk])]
      rw [if_pos hk, hd2, hd]
      simp
    · have hd2 : dropP (p :: l) [key] = p :: dropP l [key] := by
        unfold dropP
        rw [List.filter_cons_of_pos (by simpa using hk)]
      rw [if_neg hk, hd2, List.length_cons, List.length_cons]
      omega
end Go.AL
end

section
namespace Go.AL
set_option linter.unusedSimpArgs false
set_option linter.unusedVariables false
theorem txtV_len : ∀ (s a : Txt) (i : Nat), (txtV s a i).2.2 = 0 → a.length ≤ 200 → (txtV s a i).1.length ≤ 200
  | [], a, i, h, _ => by simp [txtV] at h
  | [c], a, i, h, _ => by
    simp only [txtV] at h
    repeat' split at h
    all_goals simp at h
  | c :: d :: r, a, i, h, ha => by
    have h1 := txtV_len r (a ++ [0]) (i + 2)
    have h2 := txtV_len (d :: r) (a ++ [c]) (i + 1)
    simp only [List.length_append, List.length_singleton] at h1 h2
    unfold txtV at h ⊢
    repeat' split at h
    all_goals (try (simp at h; done))
    · rename_i e1 e2
      rw [if_pos e1, if_pos e2]; exact ha
    · rename_i e1 e2 e3 e4
      rw [if_pos e1, if_neg e2, if_neg e3, if_neg e4]
      exact h1 h (by omega)
    · rename_i e1 e2
      rw [if_neg e1, if_neg e2]
      exact h2 h (by omega)
theorem takeV_ok (b : Txt) (h : (takeV b).2.2 = 0) : okV (takeV b).1 = true ∧ (takeV b).1.fit ∧ (takeV b).1.s.length ≤ 200 := by
  cases b with
  | nil => simp [takeV] at h
  | cons c r =>
    unfold takeV at h ⊢
    simp only at h ⊢
    by_cases h1 : c = 2
    · rw [if_pos h1] at h ⊢
      have := txtV_len r [] 1 h (by simp)
      simp only at h ⊢
      rw [if_pos h]
      exact ⟨decide_eq_true (.inr ⟨rfl, rfl, this⟩), ⟨by show (-9223372036854775808 : Int) ≤ 0; omega, by show (0 : Int) ≤ 9223372036854775807; omega⟩, this⟩
    · rw [if_neg h1] at h ⊢
      by_cases h2 : c ≠ 1
      · rw [if_pos h2] at h; cases h
      · rw [if_neg h2] at h ⊢
        by_cases h3 : r.length < 8
        · rw [if_pos h3] at h; cases h
        · rw [if_neg h3]
          have := num8_lt (r.take 8)
          rw [List.length_take, Nat.min_eq_left (by omega)] at this
          have h8 : num8 (r.take 8) < 18446744073709551616 := by
            have e : 256 ^ 8 = 18446744073709551616 := by decide
            rw [e] at this
            exact this
          exact ⟨decide_eq_true (.inl ⟨rfl, rfl⟩), ⟨by show (-9223372036854775808 : Int) ≤ (num8 (r.take 8) : Int) - 9223372036854775808; omega, by show (num8 (r.take 8) : Int) - 9223372036854775808 ≤ 9223372036854775807; omega⟩, by simp⟩
theorem incP_snoc {l : List Pr} {p : Pr} (hl : incP l = true) (hp : okP p = true) (h : ∀ q, l.getLast? = some q → cmpK q.key p.key < 0) : incP (l ++ [p]) = true := by
  obtain ⟨h1, h2⟩ := (incP_pw l).1 hl
  refine (incP_pw _).2 ⟨fun q hq => ?_, List.pairwise_append.2 ⟨h2, List.pairwise_singleton _ _, fun q hq r hr => ?_⟩⟩
  · rcases List.mem_append.1 hq with h | h
    · exact h1 q h
    · rw [List.mem_singleton.1 h]; exact hp
  · rw [List.mem_singleton.1 hr]
    have hne : l ≠ [] := List.ne_nil_of_mem hq
    have hlast := List.getLast?_eq_some_getLast hne
    have hc := h _ hlast
    have e := (List.dropLast_concat_getLast hne).symm
    rw [e] at hq h2
    rcases List.mem_append.1 hq with hq | hq
    · exact cmpK_trans ((List.pairwise_append.1 h2).2.2 q hq _ (List.mem_singleton_self _)) hc
    · rw [List.mem_singleton.1 hq]; exact hc
theorem takesP_good (b : Txt) (hb : b.length ≤ 1000000) : ∀ (n : Nat) (acc : List Pr) (a : Nat), incP acc = true → (∀ p ∈ acc, p.fit) →
    ((takesP b n acc a).2.2 = 0 ∧ incP (takesP b n acc a).1 = true ∧ (takesP b n acc a).1.length = acc.length + n ∧ ∀ p ∈ (takesP b n acc a).1, p.fit) ∨ ((takesP b n acc a).2.2 ≠ 0 ∧ (takesP b n acc a).1 = [])
  | 0, acc, a, h, hf => .inl ⟨rfl, h, rfl, hf⟩
  | n + 1, acc, a, h, hf => by
    by_cases h1 : a < b.length
    · by_cases h2 : a + 1 + (b.getD a 0).toNat ≤ b.length
      · by_cases h3 : nameT ((b.drop (a + 1)).take (b.getD a 0).toNat) = false ∨ ∃ q, acc.getLast? = some q ∧ 0 ≤ cmpK q.key ((b.drop (a + 1)).take (b.getD a 0).toNat)
        · rw [takesP_n h1 h2 h3]; exact .inr ⟨by decide, rfl⟩
        · by_cases h4 : (takeV (b.drop (a + 1 + (b.getD a 0).toNat))).2.2 = 0
          · rw [takesP_one h1 h2 h3 h4]
            obtain ⟨v1, v2, v3⟩ := takeV_ok _ h4
            have hn : nameT ((b.drop (a + 1)).take (b.getD a 0).toNat) = true := by
              cases e : nameT ((b.drop (a + 1)).take (b.getD a 0).toNat) with
              | true => rfl
              | false => exact (h3 (.inl e)).elim
            have := takesP_good b hb n (acc ++ [⟨(b.drop (a + 1)).take (b.getD a 0).toNat, (takeV (b.drop (a + 1 + (b.getD a 0).toNat))).1⟩]) (a + 1 + (b.getD a 0).toNat + (takeV (b.drop (a + 1 + (b.getD a 0).toNat))).2.1)
              (incP_snoc h (by simp only [okP, hn, v1, Bool.and_self]) (fun q hq => by
                have : ¬ 0 ≤ cmpK q.key ((b.drop (a + 1)).take (b.getD a 0).toNat) := fun hc => h3 (.inr ⟨q, hq, hc⟩)
                show cmpK q.key ((b.drop (a + 1)).take (b.getD a 0).toNat) < 0
                omega)) (fun p hp => by
                rcases List.mem_append.1 hp with hp | hp
                · exact hf p hp
                · rw [List.mem_singleton.1 hp]
                  exact ⟨by show ((b.drop (a + 1)).take (b.getD a 0).toNat).length ≤ 1000000; rw [List.length_take, List.length_drop]; omega, Nat.le_trans v3 (by decide), v2⟩)
            rcases this with ⟨g1, g2, g3, g4⟩ | g
            · exact .inl ⟨g1, g2, by rw [g3, List.length_append, List.length_singleton]; omega, g4⟩
            · exact .inr g
          · rw [takesP_v h1 h2 h3 h4]; exact .inr ⟨h4, rfl⟩
      · rw [takesP_s (.inr (by omega))]; exact .inr ⟨by decide, rfl⟩
    · rw [takesP_s (.inl (by omega))]; exact .inr ⟨by decide, rfl⟩
theorem takeP_good (b : Txt) (hb : b.length ≤ 1000000) : ((takeP b).2.2 = 0 → rightP (takeP b).1 = true) ∧ (takeP b).1.length ≤ 16 ∧ ∀ p ∈ (takeP b).1, p.fit := by
  cases b with
  | nil => exact ⟨(fun h => by cases h), Nat.zero_le _, (fun p hp => by cases hp)⟩
  | cons c r =>
    rw [takeP]
    by_cases h : 16 < c.toNat
    · rw [if_pos h]; exact ⟨(fun h => by cases h), Nat.zero_le _, (fun p hp => by cases hp)⟩
    · rw [if_neg h]
      rcases takesP_good (c :: r) hb c.toNat [] 1 rfl (fun p hp => by cases hp) with ⟨g1, g2, g3, g4⟩ | ⟨g1, g2⟩
      · have : (takesP (c :: r) c.toNat [] 1).1.length ≤ 16 := by rw [g3]; simp; omega
        exact ⟨fun _ => rightP_iff.2 ⟨g2, this⟩, this, g4⟩
      · exact ⟨fun h => (g1 h).elim, by rw [g2]; exact Nat.zero_le _, by rw [g2]; exact fun p hp => by cases hp⟩
theorem oneP_len (p : Pr) (h : okP p = true) : (oneP p).length ≤ 600 := by
  have h1 := name_len (okP_name h)
  have h2 : okV p.v = true := okP_val h
  have h3 : p.v.s.length ≤ 200 := by
    rcases of_decide_eq_true h2 with ⟨_, e⟩ | ⟨_, _, e⟩
    · rw [e]; simp
    · exact e
  have h4 := bytesV_len p.v
  simp only [oneP, List.length_cons, List.length_append]
  omega
theorem bytesP_len {l : List Pr} (h : rightP l = true) : (bytesP l).length ≤ 10000 := by
  obtain ⟨h1, h2⟩ := rightP_iff.1 h
  have h3 := ((incP_pw l).1 h1).1
  have : (l.flatMap oneP).length ≤ 600 * l.length := by
    clear h h1 h2
    induction l with
    | nil => simp
    | cons p l ih =>
      have := ih fun q hq => h3 q (List.mem_cons_of_mem _ hq)
      have := oneP_len p (h3 p List.mem_cons_self)
      rw [List.flatMap_cons, List.length_append, List.length_cons]
      omega
  simp only [bytesP, List.length_cons]
  omega
end Go.AL
namespace Go.Proofs.Ytbghpjamahgegaa
open Go.AL
set_option linter.unusedSimpArgs false
set_option linter.unusedVariables false
set_option maxRecDepth 20000
set_option maxHeartbeats 4000000
theorem bytsOk_of {es : List AVal} {s : Nat} (h : bytsOk es s = true) : okW 1 s es = true ∧ es.all byteIs = true ∧ (es.map AL.byteOf).length ≤ 1000000 := by
  simp only [bytsOk, Bool.and_eq_true, hold_eq, decide_eq_true_eq] at h
  exact ⟨h.1, h.2.1, by simpa using h.2.2⟩
theorem bytsOk_mk {l : Txt} (h : l.length ≤ 1000000) : bytsOk (bw l) 1 = true := by
  simp only [bytsOk, Bool.and_eq_true, hold_eq, decide_eq_true_eq]
  exact ⟨rfl, bw_byteIs _, by simpa using h⟩
theorem take_ok : EntOk Try.prog takeE := by
  intro xs σ; simp only [takeE]; split
  · rename_i es s t
    intro hc
    obtain ⟨h1, h2, h3⟩ := bytsOk_of hc
    exact pcall_of (v := .tuple [.slice _ 4 .ro, .int .i64 _, .int .i64 _]) (.cons (wk_bw t h1 h2) (.refl _)) (take_c _ h3) (by simp only [noOutL, AVal.noOut, bw_noOut, Bool.and_true]) (by simp only [noTokL, AVal.noTok, bw_noTok, Bool.and_true, Tag.below]) (by simp only [noOutL, AVal.noOut, prv_noOut, Bool.and_true]) (by simp only [noTokL, AVal.noTok, prv_noTok, Tag.below, Bool.and_true])
  · trivial
theorem takeR_ok : EntOk Try.prog takeRE := by
  intro xs σ; simp only [takeRE]; split
  · rename_i es s t
    intro hc
    obtain ⟨h1, h2, h3⟩ := bytsOk_of hc
    exact pcall_of (v := .tuple [.slice _ 4 .ro, .int .i64 _, .int .i64 _]) (.cons (wk_bw t h1 h2) (.refl _)) (takeR_c _ h3) (by simp only [noOutL, AVal.noOut, bw_noOut, Bool.and_true]) (by simp only [noTokL, AVal.noTok, bw_noTok, Bool.and_true, Tag.below]) (by simp only [noOutL, AVal.noOut, prv_noOut, Bool.and_true]) (by simp only [noTokL, AVal.noTok, prv_noTok, Tag.below, Bool.and_true])
  · trivial
theorem takes_law (xs : List AVal) (h : FitsL [.slice (.agg [.str, .int .i64, .int .i64, .str]) 4 48, .slice (.int .u8) 1 1] xs) :
    ACall Try.prog 7 xs Sto.empty fun v _ => v = .bool true := by
  obtain ⟨_, _, rfl, f1, _, _, rfl, f2, rfl⟩ := h
  obtain ⟨a, rfl, _, fa⟩ := fits_prv f1
  obtain ⟨b, rfl, _⟩ := fits_bw f2
  refine Pt7.takes_i a b _ (.of [awakeE, smallE, takeE, takeRE, sameRE, rightRE, bytesE, bytesRE] rfl ⟨awake_ok, small_ok, take_ok, takeR_ok, sameR_ok, rightR_ok, bytes_ok, bytesR_ok, trivial⟩) ?_
  simp only [hold_eq, map_prOf_prv, List.nil_append, map_byteOf_bw, Nat.zero_add]
  refine brV_by' (fun _ => ?_) (fun h => by cases h)
  refine gb_by (prv_is _) (brV_by' (fun h => ?_) (fun _ => trivial))
  have sa : smallP a = true := by simpa using h
  obtain ⟨s1, s2⟩ := smallP_iff.1 sa
  have fit : ∀ p ∈ a, p.fit := fun p hp => ⟨by have := s2 p hp; omega, by have := s2 p hp; omega, fa p hp⟩
  have ca := prsOk_mk (l := a) (by omega) fit
  have nb : (bw b).length = b.length := bw_length _
  refine brV_by (fun _ => trivial) (fun h => ?_)
  have hb : b.length ≤ 2000 := by have := of_decide_eq_false h; omega
  refine gb_by (dt ⟨dt ⟨by trivial, by simp, by omega, by omega⟩, by trivial⟩) ?_
  have cb := bytsOk_mk (l := b) (by omega)
  obtain ⟨k1, k2, k3⟩ := takeP_good b (by omega)
  intro y hy
  refine gb_by cb ?_
  intro y1 hy1
  obtain rfl : y1 = y := by rw [hy, hy1]
  refine gb_by cb ?_
  rw [← hy] at k1 k2 k3
  have cy := prsOk_mk (l := y1.1) (by omega) k3
  refine brV_by' (fun _ => ?_) (fun h => by simp at h)
  refine brV_by' (fun _ => ?_) (fun h => by simp at h)
  intro y2 h2
  obtain rfl : y2 = true := by rw [h2]; exact dt rfl
  refine gb_by (and_tt cy cy) (brV_by' (fun _ => ?_) (fun h => by cases h))
  have last : rightP a = true → (bytesP a).length ≤ 10000 ∧ takeP (bytesP a ++ b) = (a, (bytesP a).length, 0) := fun hr => ⟨bytesP_len hr, takeP_bytes hr fa b⟩
  refine brV_by (fun h => ?_) (fun h => ?_)
  · have h0 : y1.2.2 = 0 := by simpa using h
    intro y3 h3
    obtain rfl : y3 = true := by rw [h3]; exact k1 h0
    refine gb_by cy (brV_by (fun h => by cases h) (fun _ => ?_))
    intro y4 h4 y5 h5
    refine gb_by ca ?_
    intro y6 h6
    refine gb_by ca ?_
    obtain rfl : y6 = y4 := by rw [h4, h6]
    cases y6 with
    | false =>
      rw [if_neg (by simp)] at h5
      subst h5
      refine brV_by (fun _ => ?_) (fun h => by cases h)
      exact brV_by (fun _ => rfl) (fun h => by simp at h)
    | true =>
      have hr : rightP a = true := h4.symm
      rw [if_pos rfl] at h5
      obtain ⟨l1, l2⟩ := last hr
      rw [← h5] at l1 l2
      refine brV_by (fun h => by cases h) (fun _ => ?_)
      refine brV_by' (fun _ => ?_) (fun h => by simp at h)
      refine gb_by (dt (bw_isU8 _)) ?_
      intro y7 h7
      obtain rfl : y7 = y5 := by rw [h7, h5]
      have ny := bw_length y7
      refine gb_by (and_tt ca hr) (gb_by (dt (bw_isU8 _)) (brV_by (fun h => by simp at h) (fun _ => ?_)))
      refine gb_by (dt ⟨dt ⟨by trivial, by simp, by omega, by omega⟩, by trivial⟩) (gb_by (dt ⟨dt ⟨by trivial, by trivial, by omega, by omega⟩, by trivial⟩) ?_)
      rw [← bw_append, map_byteOf_bw]
      intro z hz
      rw [l2] at hz
      subst hz
      refine gb_by (bytsOk_mk (by rw [List.length_append]; omega)) ?_
      refine brV_by (fun _ => ?_) (fun h => by simp at h)
      refine brV_by (fun _ => ?_) (fun h => by simp at h)
      intro w hw
      obtain rfl : w = true := by rw [hw]; exact dt rfl
      exact gb_by (and_tt ca ca) rfl
  · intro y4 h4 y5 h5
    refine gb_by ca ?_
    intro y6 h6
    refine gb_by ca ?_
    obtain rfl : y6 = y4 := by rw [h4, h6]
    cases y6 with
    | false =>
      rw [if_neg (by simp)] at h5
      subst h5
      refine brV_by (fun _ => ?_) (fun h => by cases h)
      exact brV_by (fun _ => rfl) (fun h => by simp at h)
    | true =>
      have hr : rightP a = true := h4.symm
      rw [if_pos rfl] at h5
      obtain ⟨l1, l2⟩ := last hr
      rw [← h5] at l1 l2
      refine brV_by (fun h => by cases h) (fun _ => ?_)
      refine brV_by' (fun _ => ?_) (fun h => by simp at h)
      refine gb_by (dt (bw_isU8 _)) ?_
      intro y7 h7
      obtain rfl : y7 = y5 := by rw [h7, h5]
      have ny := bw_length y7
      refine gb_by (and_tt ca hr) (gb_by (dt (bw_isU8 _)) (brV_by (fun h => by simp at h) (fun _ => ?_)))
      refine gb_by (dt ⟨dt ⟨by trivial, by simp, by omega, by omega⟩, by trivial⟩) (gb_by (dt ⟨dt ⟨by trivial, by trivial, by omega, by omega⟩, by trivial⟩) ?_)
      rw [← bw_append, map_byteOf_bw]
      intro z hz
      rw [l2] at hz
      subst hz
      refine gb_by (bytsOk_mk (by rw [List.length_append]; omega)) ?_
      refine brV_by (fun _ => ?_) (fun h => by simp at h)
      refine brV_by (fun _ => ?_) (fun h => by simp at h)
      intro w hw
      obtain rfl : w = true := by rw [hw]; exact dt rfl
      exact gb_by (and_tt ca ca) rfl
end Go.Proofs.Ytbghpjamahgegaa
end
