/-
  The texts Pr, Pc, Pd, Pf, Qq, Pg, Ps, Ph, Pj, Pk, Pn, Po, Pq, Pt, Pu of this seat, one behind the other.
-/
import Derived.Test.YtbghpjamahgegaaZ5
import Derived.KernelRfl
import Derived.WalkKit
import Derived.WalkSmall
import Derived.Laws.OwnMore
import Derived.BigCall
import Derived.BigGuard

section
set_option maxRecDepth 100000
set_option maxHeartbeats 0
set_option linter.unusedVariables false
namespace Go.Proofs.Ytbghpjamahgegaa
open Go.AL Go.Proofs
noncomputable def cBy : Cfg := { keep := [0, 1, 2, 4], cut := [], orc := ofList [Lt.compareE] }
noncomputable def cRight : Cfg := { keep := [0, 2, 3, 4, 5, 6, 7, 8, 38], cut := [(5, [0, 5, 6, 7], [])], orc := ofList [Lt.rightE, V.rightE, byE] }
noncomputable def cGet1 : Cfg := { keep := [0, 1, 2, 3], cut := [] }
noncomputable def cIndexF : Cfg := { keep := [0, 1, 4, 5, 7, 8, 9, 16], cut := [(5, [0, 1, 7, 8], [])], orc := ofList [get1E] }
noncomputable def cGet : Cfg := { keep := [0, 1, 3, 4, 5, 6, 11], cut := [], orc := ofList [indexFE], frz := [8] }
noncomputable def cEqual : Cfg := { keep := [0, 1, 4, 5, 10, 12, 13, 14, 24], cut := [(9, [0, 1, 12, 13], []), (18, [], [])] }
noncomputable def cSame : Cfg := { keep := [0, 1, 4], cut := [], orc := ofList [equalE] }
noncomputable def cBytes : Cfg := { keep := [0, 2, 3, 4, 6, 7, 11, 16, 17, 18, 19], cut := [(11, [4, 16, 17, 18], []), (20, [4], [])], orc := ofList [rightE, V.bytesE], grow := [(4, 1)] }
noncomputable def cRightR : Cfg := { keep := [0, 2, 3, 6, 10, 28, 45], cut := [(9, [0, 3], []), (16, [0, 3], []), (20, [], [])], orc := ofList [Lt.rightRE, V.rightRE, Lt.compareRE] }
noncomputable def cFindR : Cfg := { keep := [0, 1, 4, 5, 9, 18], cut := [(5, [0, 1, 5], [])] }
noncomputable def cSameR : Cfg := { keep := [0, 1, 4, 5, 10, 14, 25], cut := [(9, [0, 1, 5], [])] }
noncomputable def cPutR : Cfg := { keep := [0, 1, 3, 4, 5, 6, 7, 8, 12, 28, 34, 43], cut := [(9, [0, 3, 5, 6, 7], [3]), (20, [0, 3, 5, 6, 7, 8], [3]), (24, [3, 5, 6], [3])], orc := ofList [Lt.compareRE], grow := [(5, 4)] }
noncomputable def cBytesR : Cfg := { keep := [0, 2, 3, 4, 12], cut := [(7, [0, 3, 4], [])], orc := ofList [V.bytesRE], grow := [(3, 1)] }
noncomputable def code_10_ : Code := (Try.f10.body).getD .skip
noncomputable def code_11_ : Code := (Try.f11.body).getD .skip
noncomputable def code_12_ : Code := (Try.f12.body).getD .skip
noncomputable def code_13_ : Code := (Try.f13.body).getD .skip
noncomputable def code_16_ : Code := (Try.f16.body).getD .skip
noncomputable def code_18_ : Code := (Try.f18.body).getD .skip
noncomputable def code_20_ : Code := (Try.f20.body).getD .skip
noncomputable def code_24_ : Code := (Try.f24.body).getD .skip
noncomputable def code_31_ : Code := (Try.f31.body).getD .skip
noncomputable def code_36_ : Code := (Try.f36.body).getD .skip
noncomputable def code_41_ : Code := (Try.f41.body).getD .skip
noncomputable def code_42_ : Code := (Try.f42.body).getD .skip
noncomputable def code_43_ : Code := (Try.f43.body).getD .skip
noncomputable def code_16_1_1 : Code := codeAt code_16_ [1, 1]
noncomputable def code_20_1_1 : Code := codeAt code_20_ [1, 1]
noncomputable def code_41_1_1 : Code := codeAt code_41_ [1, 1]
noncomputable def code_10_1_1_1 : Code := codeAt code_10_ [1, 1, 1]
noncomputable def code_12_1_1_1 : Code := codeAt code_12_ [1, 1, 1]
noncomputable def code_24_1_1_1 : Code := codeAt code_24_ [1, 1, 1]
noncomputable def code_31_1_1_1 : Code := codeAt code_31_ [1, 1, 1]
noncomputable def code_11_1_1_1_1 : Code := codeAt code_11_ [1, 1, 1, 1]
noncomputable def code_43_1_1_1_1 : Code := codeAt code_43_ [1, 1, 1, 1]
noncomputable def code_16_1_0_1_0_0 : Code := codeAt code_16_ [1, 0, 1, 0, 0]
noncomputable def code_20_1_0_1_0_0 : Code := codeAt code_20_ [1, 0, 1, 0, 0]
noncomputable def code_41_1_0_1_0_0 : Code := codeAt code_41_ [1, 0, 1, 0, 0]
noncomputable def code_10_1_1_0_1_0_0 : Code := codeAt code_10_ [1, 1, 0, 1, 0, 0]
noncomputable def code_12_1_1_0_1_0_0 : Code := codeAt code_12_ [1, 1, 0, 1, 0, 0]
noncomputable def code_24_1_1_0_1_0_0 : Code := codeAt code_24_ [1, 1, 0, 1, 0, 0]
noncomputable def code_31_1_1_0_1_0_0 : Code := codeAt code_31_ [1, 1, 0, 1, 0, 0]
noncomputable def code_11_1_1_1_0_1_0_0 : Code := codeAt code_11_ [1, 1, 1, 0, 1, 0, 0]
noncomputable def code_43_1_1_1_0_1_0_0 : Code := codeAt code_43_ [1, 1, 1, 0, 1, 0, 0]
noncomputable def code_10_1_1_0_1_0_0_1_1 : Code := codeAt code_10_ [1, 1, 0, 1, 0, 0, 1, 1]
noncomputable def code_43_1_1_1_0_1_0_0_1_1 : Code := codeAt code_43_ [1, 1, 1, 0, 1, 0, 0, 1, 1]
noncomputable def code_10_1_1_0_1_0_0_1_0_0_1 : Code := codeAt code_10_ [1, 1, 0, 1, 0, 0, 1, 0, 0, 1]
noncomputable def code_43_1_1_1_0_1_0_0_1_0_0_1_1 : Code := codeAt code_43_ [1, 1, 1, 0, 1, 0, 0, 1, 0, 0, 1, 1]
theorem by__r (key b : Txt) (k n : Int) (s : Txt) (Q : AVal → Sto → Prop) : vc Try.prog cBy code_36_ (endK Try.prog Try.f36.results.toList Q) (St.start Try.f36.ntmps [.agg [.str key, .int .i64 k, .int .i64 n, .str s], .str b] (Sto.empty)) =
  (∀ (y : Int), y = cmpR (runeL key) (runeL b) → gb (Lt.lenT key && Lt.lenT b) (Q (AVal.int IntKind.i64 y) Sto.empty)) := by kernel_rfl
theorem by__i (key b : Txt) (k n : Int) (s : Txt) (Q : AVal → Sto → Prop) (ho : OrcOk Try.prog cBy) (h : ∀ (y : Int), y = cmpR (runeL key) (runeL b) → gb (Lt.lenT key && Lt.lenT b) (Q (AVal.int IntKind.i64 y) Sto.empty)) : ACall Try.prog 36 [.agg [.str key, .int .i64 k, .int .i64 n, .str s], .str b] (Sto.empty) Q :=
  ACall.intro hmix Try.func36 (c := code_36_) (by kernel_rfl) cBy ho (Nat.le_of_ble_eq_true (by kernel_rfl)) (by rw [by__r]; exact h)
theorem right_r (l : List Pr) (Q : AVal → Sto → Prop) : vc Try.prog cRight code_20_ (endK Try.prog Try.f20.results.toList Q) (St.start Try.f20.ntmps [.slice (prv l) 4 .ro] (Sto.empty)) =
  (loopV (fun s => St.norm [] [0, 5, 6, 7] [] s) (vc Try.prog cRight code_20_1_0_1_0_0) (blockK 0 (thenK (vc Try.prog cRight code_20_1_1 (endK Try.prog (Array.toList (Go.Func.results Try.f20)) Q)) (endK Try.prog (Array.toList (Go.Func.results Try.f20)) Q))) (St.mk 43 [(0, AVal.slice (prv l) 4 Tag.ro), (5, AVal.slice (prv l) 4 Tag.ro), (6, AVal.int IntKind.i64 (↑(List.length (prv l)) : Int)), (7, AVal.int IntKind.i64 (0 : Int))] [] [] Sto.empty)) := by kernel_rfl
theorem right_i (l : List Pr) (Q : AVal → Sto → Prop) (ho : OrcOk Try.prog cRight) (h : loopV (fun s => St.norm [] [0, 5, 6, 7] [] s) (vc Try.prog cRight code_20_1_0_1_0_0) (blockK 0 (thenK (vc Try.prog cRight code_20_1_1 (endK Try.prog (Array.toList (Go.Func.results Try.f20)) Q)) (endK Try.prog (Array.toList (Go.Func.results Try.f20)) Q))) (St.mk 43 [(0, AVal.slice (prv l) 4 Tag.ro), (5, AVal.slice (prv l) 4 Tag.ro), (6, AVal.int IntKind.i64 (↑(List.length (prv l)) : Int)), (7, AVal.int IntKind.i64 (0 : Int))] [] [] Sto.empty)) : ACall Try.prog 20 [.slice (prv l) 4 .ro] (Sto.empty) Q :=
  ACall.intro hmix Try.func20 (c := code_20_) (by kernel_rfl) cRight ho (Nat.le_of_ble_eq_true (by kernel_rfl)) (by rw [right_r]; exact h)
noncomputable def rightL_S (l : List Pr) (n i : Nat) : St := St.mk 43 [(0, .slice (prv l) 4 .ro), (5, .slice (prv l) 4 .ro), (6, .int .i64 (n : Int)), (7, .int .i64 (i : Int))] [] [] (Sto.empty)
noncomputable abbrev rightL_C : Code := code_20_1_0_1_0_0
theorem rightL_r (l : List Pr) (n i : Nat) (L : St → Prop) (K : Exit → St → Prop) : vc Try.prog cRight code_20_1_0_1_0_0 (thenK (fun s => L (St.norm [] [0, 5, 6, 7] [] s)) K) (St.mk 43 [(0, .slice (prv l) 4 .ro), (5, .slice (prv l) 4 .ro), (6, .int .i64 (n : Int)), (7, .int .i64 (i : Int))] [] [] (Sto.empty)) =
  (brV (hold (decide ((↑i : Int) < (↑n : Int)))) true (gb (decide ((0 : Int) ≤ (↑i : Int) ∧ (↑i : Int) < (↑(List.length (prv l)) : Int))) (gb (decide (4 ≤ List.length (elemAt (prv l) (↑i : Int)) ∧ 0 < 4) && (etaOk Sh.str (List.getD (elemAt (prv l) (↑i : Int)) 0 AVal.undef) && (etaOk (Sh.int IntKind.i64) (List.getD (elemAt (prv l) (↑i : Int)) 1 AVal.undef) && (etaOk (Sh.int IntKind.i64) (List.getD (elemAt (prv l) (↑i : Int)) 2 AVal.undef) && (etaOk Sh.str (List.getD (elemAt (prv l) (↑i : Int)) 3 AVal.undef) && true))))) (gb (List.all [AVal.str (AVal.strOf (List.getD (elemAt (prv l) (↑i : Int)) 0 AVal.undef))] strIs && (Lt.lenOk 1 && List.all [AVal.str (AVal.strOf (List.getD (elemAt (prv l) (↑i : Int)) 0 AVal.undef))] Lt.strOk)) (brV (!hold (List.all [AVal.strOf (List.getD (elemAt (prv l) (↑i : Int)) 0 AVal.undef)] nameT)) false (gb (V.vlsOk [AVal.agg [AVal.int IntKind.i64 (AVal.intOf (List.getD (elemAt (prv l) (↑i : Int)) 1 AVal.undef)), AVal.int IntKind.i64 (AVal.intOf (List.getD (elemAt (prv l) (↑i : Int)) 2 AVal.undef)), AVal.str (AVal.strOf (List.getD (elemAt (prv l) (↑i : Int)) 3 AVal.undef))]] 3) (brV (!hold (List.all [Vl.mk (AVal.intOf (List.getD (elemAt (prv l) (↑i : Int)) 1 AVal.undef)) (AVal.intOf (List.getD (elemAt (prv l) (↑i : Int)) 2 AVal.undef)) (AVal.strOf (List.getD (elemAt (prv l) (↑i : Int)) 3 AVal.undef))] okV)) false (brV (hold (decide ((0 : Int) < (↑i : Int)))) true (gb (decide ((0 : Int) ≤ IntKind.wrap IntKind.i64 ((↑i : Int) - (1 : Int)) ∧ IntKind.wrap IntKind.i64 ((↑i : Int) - (1 : Int)) < (↑(List.length (prv l)) : Int))) (gb (decide (4 ≤ List.length (elemAt (prv l) (IntKind.wrap IntKind.i64 ((↑i : Int) - (1 : Int)))) ∧ 0 < 4) && (etaOk Sh.str (List.getD (elemAt (prv l) (IntKind.wrap IntKind.i64 ((↑i : Int) - (1 : Int)))) 0 AVal.undef) && (etaOk (Sh.int IntKind.i64) (List.getD (elemAt (prv l) (IntKind.wrap IntKind.i64 ((↑i : Int) - (1 : Int)))) 1 AVal.undef) && (etaOk (Sh.int IntKind.i64) (List.getD (elemAt (prv l) (IntKind.wrap IntKind.i64 ((↑i : Int) - (1 : Int)))) 2 AVal.undef) && (etaOk Sh.str (List.getD (elemAt (prv l) (IntKind.wrap IntKind.i64 ((↑i : Int) - (1 : Int)))) 3 AVal.undef) && true))))) (∀ (y : Int), y = cmpK (AVal.strOf (List.getD (elemAt (prv l) (IntKind.wrap IntKind.i64 ((↑i : Int) - (1 : Int)))) 0 AVal.undef)) (AVal.strOf (List.getD (elemAt (prv l) (↑i : Int)) 0 AVal.undef)) → gb (Lt.lenT (AVal.strOf (List.getD (elemAt (prv l) (IntKind.wrap IntKind.i64 ((↑i : Int) - (1 : Int)))) 0 AVal.undef)) && Lt.lenT (AVal.strOf (List.getD (elemAt (prv l) (↑i : Int)) 0 AVal.undef))) (brV (hold (decide ((0 : Int) ≤ y))) true (K Exit.ret (St.mk 43 [(0, AVal.slice (prv l) 4 Tag.ro), (5, AVal.slice (prv l) 4 Tag.ro), (6, AVal.int IntKind.i64 (↑n : Int)), (7, AVal.int IntKind.i64 (↑i : Int)), (8, AVal.bool (hold (decide ((↑i : Int) < (↑n : Int))))), (4, AVal.ptr (Oid.loc 4) 0), (3, AVal.int IntKind.i64 (↑i : Int)), (38, AVal.bool (hold (decide ((0 : Int) ≤ y)))), (2, AVal.bool false)] [] [(4, AObj.cells [AVal.str (AVal.strOf (List.getD (elemAt (prv l) (↑i : Int)) 0 AVal.undef)), AVal.int IntKind.i64 (AVal.intOf (List.getD (elemAt (prv l) (↑i : Int)) 1 AVal.undef)), AVal.int IntKind.i64 (AVal.intOf (List.getD (elemAt (prv l) (↑i : Int)) 2 AVal.undef)), AVal.str (AVal.strOf (List.getD (elemAt (prv l) (↑i : Int)) 3 AVal.undef))])] Sto.empty)) (L (St.mk 43 [(0, AVal.slice (prv l) 4 Tag.ro), (5, AVal.slice (prv l) 4 Tag.ro), (6, AVal.int IntKind.i64 (↑n : Int)), (7, AVal.int IntKind.i64 (IntKind.wrap IntKind.i64 ((↑i : Int) + (1 : Int))))] [] [] Sto.empty)))))) (L (St.mk 43 [(0, AVal.slice (prv l) 4 Tag.ro), (5, AVal.slice (prv l) 4 Tag.ro), (6, AVal.int IntKind.i64 (↑n : Int)), (7, AVal.int IntKind.i64 (IntKind.wrap IntKind.i64 ((↑i : Int) + (1 : Int))))] [] [] Sto.empty))) (K Exit.ret (St.mk 43 [(0, AVal.slice (prv l) 4 Tag.ro), (5, AVal.slice (prv l) 4 Tag.ro), (6, AVal.int IntKind.i64 (↑n : Int)), (7, AVal.int IntKind.i64 (↑i : Int)), (8, AVal.bool (hold (decide ((↑i : Int) < (↑n : Int))))), (4, AVal.ptr (Oid.loc 4) 0), (3, AVal.int IntKind.i64 (↑i : Int)), (38, AVal.bool true), (2, AVal.bool false)] [] [(4, AObj.cells [AVal.str (AVal.strOf (List.getD (elemAt (prv l) (↑i : Int)) 0 AVal.undef)), AVal.int IntKind.i64 (AVal.intOf (List.getD (elemAt (prv l) (↑i : Int)) 1 AVal.undef)), AVal.int IntKind.i64 (AVal.intOf (List.getD (elemAt (prv l) (↑i : Int)) 2 AVal.undef)), AVal.str (AVal.strOf (List.getD (elemAt (prv l) (↑i : Int)) 3 AVal.undef))])] Sto.empty)))) (K Exit.ret (St.mk 43 [(0, AVal.slice (prv l) 4 Tag.ro), (5, AVal.slice (prv l) 4 Tag.ro), (6, AVal.int IntKind.i64 (↑n : Int)), (7, AVal.int IntKind.i64 (↑i : Int)), (8, AVal.bool (hold (decide ((↑i : Int) < (↑n : Int))))), (4, AVal.ptr (Oid.loc 4) 0), (3, AVal.int IntKind.i64 (↑i : Int)), (38, AVal.bool true), (2, AVal.bool false)] [] [(4, AObj.cells [AVal.str (AVal.strOf (List.getD (elemAt (prv l) (↑i : Int)) 0 AVal.undef)), AVal.int IntKind.i64 (AVal.intOf (List.getD (elemAt (prv l) (↑i : Int)) 1 AVal.undef)), AVal.int IntKind.i64 (AVal.intOf (List.getD (elemAt (prv l) (↑i : Int)) 2 AVal.undef)), AVal.str (AVal.strOf (List.getD (elemAt (prv l) (↑i : Int)) 3 AVal.undef))])] Sto.empty)))))) (K (Exit.exit 0) (St.mk 43 [(0, AVal.slice (prv l) 4 Tag.ro), (5, AVal.slice (prv l) 4 Tag.ro), (6, AVal.int IntKind.i64 (↑n : Int)), (7, AVal.int IntKind.i64 (↑i : Int)), (8, AVal.bool (hold (decide ((↑i : Int) < (↑n : Int)))))] [] [] Sto.empty))) := by kernel_rfl
theorem get1_r (key b : Txt) (k n : Int) (s : Txt) (Q : AVal → Sto → Prop) : vc Try.prog cGet1 code_42_ (endK Try.prog Try.f42.results.toList Q) (St.start Try.f42.ntmps [.agg [.str key, .int .i64 k, .int .i64 n, .str s], .iptr [.str b]] (Sto.empty)) =
  (Q (AVal.bool (hold (key == b))) Sto.empty) := by kernel_rfl
theorem get1_i (key b : Txt) (k n : Int) (s : Txt) (Q : AVal → Sto → Prop) (ho : OrcOk Try.prog cGet1) (h : Q (AVal.bool (hold (key == b))) Sto.empty) : ACall Try.prog 42 [.agg [.str key, .int .i64 k, .int .i64 n, .str s], .iptr [.str b]] (Sto.empty) Q :=
  ACall.intro hmix Try.func42 (c := code_42_) (by kernel_rfl) cGet1 ho (Nat.le_of_ble_eq_true (by kernel_rfl)) (by rw [get1_r]; exact h)
theorem indexF_r (l : List Pr) (key : Txt) (Q : AVal → Sto → Prop) : vc Try.prog cIndexF code_41_ (endK Try.prog Try.f41.results.toList Q) (St.start Try.f41.ntmps [.slice (prv l) 4 .ro, .func (.func 42) [] [.iptr [.str key]]] (Sto.empty)) =
  (loopV (fun s => St.norm [] [0, 1, 7, 8] [] s) (vc Try.prog cIndexF code_41_1_0_1_0_0) (blockK 0 (thenK (vc Try.prog cIndexF code_41_1_1 (endK Try.prog (Array.toList (Go.Func.results Try.f41)) Q)) (endK Try.prog (Array.toList (Go.Func.results Try.f41)) Q))) (St.mk 19 [(0, AVal.slice (prv l) 4 Tag.ro), (1, AVal.func (Go.Fn.func 42) [] [AVal.iptr [AVal.str key]]), (7, AVal.int IntKind.i64 (↑(List.length (prv l)) : Int)), (8, AVal.int IntKind.i64 (0 : Int))] [] [] Sto.empty)) := by kernel_rfl
theorem indexF_i (l : List Pr) (key : Txt) (Q : AVal → Sto → Prop) (ho : OrcOk Try.prog cIndexF) (h : loopV (fun s => St.norm [] [0, 1, 7, 8] [] s) (vc Try.prog cIndexF code_41_1_0_1_0_0) (blockK 0 (thenK (vc Try.prog cIndexF code_41_1_1 (endK Try.prog (Array.toList (Go.Func.results Try.f41)) Q)) (endK Try.prog (Array.toList (Go.Func.results Try.f41)) Q))) (St.mk 19 [(0, AVal.slice (prv l) 4 Tag.ro), (1, AVal.func (Go.Fn.func 42) [] [AVal.iptr [AVal.str key]]), (7, AVal.int IntKind.i64 (↑(List.length (prv l)) : Int)), (8, AVal.int IntKind.i64 (0 : Int))] [] [] Sto.empty)) : ACall Try.prog 41 [.slice (prv l) 4 .ro, .func (.func 42) [] [.iptr [.str key]]] (Sto.empty) Q :=
  ACall.intro hmix Try.func41 (c := code_41_) (by kernel_rfl) cIndexF ho (Nat.le_of_ble_eq_true (by kernel_rfl)) (by rw [indexF_r]; exact h)
noncomputable def indexFL_S (l : List Pr) (key : Txt) (n i : Nat) : St := St.mk 19 [(0, .slice (prv l) 4 .ro), (1, .func (.func 42) [] [.iptr [.str key]]), (7, .int .i64 (n : Int)), (8, .int .i64 (i : Int))] [] [] (Sto.empty)
noncomputable abbrev indexFL_C : Code := code_41_1_0_1_0_0
theorem indexFL_r (l : List Pr) (key : Txt) (n i : Nat) (L : St → Prop) (K : Exit → St → Prop) : vc Try.prog cIndexF code_41_1_0_1_0_0 (thenK (fun s => L (St.norm [] [0, 1, 7, 8] [] s)) K) (St.mk 19 [(0, .slice (prv l) 4 .ro), (1, .func (.func 42) [] [.iptr [.str key]]), (7, .int .i64 (n : Int)), (8, .int .i64 (i : Int))] [] [] (Sto.empty)) =
  (brV (hold (decide ((↑i : Int) < (↑n : Int)))) true (gb (decide ((0 : Int) ≤ (↑i : Int) ∧ (↑i : Int) < (↑(List.length (prv l)) : Int))) (gb (decide (4 ≤ List.length (elemAt (prv l) (↑i : Int)) ∧ 0 < 4) && (etaOk Sh.str (List.getD (elemAt (prv l) (↑i : Int)) 0 AVal.undef) && (etaOk (Sh.int IntKind.i64) (List.getD (elemAt (prv l) (↑i : Int)) 1 AVal.undef) && (etaOk (Sh.int IntKind.i64) (List.getD (elemAt (prv l) (↑i : Int)) 2 AVal.undef) && (etaOk Sh.str (List.getD (elemAt (prv l) (↑i : Int)) 3 AVal.undef) && true))))) (brV (hold (AVal.strOf (List.getD (elemAt (prv l) (↑i : Int)) 0 AVal.undef) == key)) true (K Exit.ret (St.mk 19 [(0, AVal.slice (prv l) 4 Tag.ro), (1, AVal.func (Go.Fn.func 42) [] [AVal.iptr [AVal.str key]]), (7, AVal.int IntKind.i64 (↑n : Int)), (8, AVal.int IntKind.i64 (↑i : Int)), (9, AVal.bool (hold (decide ((↑i : Int) < (↑n : Int))))), (5, AVal.int IntKind.i64 (↑i : Int)), (16, AVal.bool (hold (AVal.strOf (List.getD (elemAt (prv l) (↑i : Int)) 0 AVal.undef) == key))), (4, AVal.int IntKind.i64 (↑i : Int))] [] [] Sto.empty)) (L (St.mk 19 [(0, AVal.slice (prv l) 4 Tag.ro), (1, AVal.func (Go.Fn.func 42) [] [AVal.iptr [AVal.str key]]), (7, AVal.int IntKind.i64 (↑n : Int)), (8, AVal.int IntKind.i64 (IntKind.wrap IntKind.i64 ((↑i : Int) + (1 : Int))))] [] [] Sto.empty))))) (K (Exit.exit 0) (St.mk 19 [(0, AVal.slice (prv l) 4 Tag.ro), (1, AVal.func (Go.Fn.func 42) [] [AVal.iptr [AVal.str key]]), (7, AVal.int IntKind.i64 (↑n : Int)), (8, AVal.int IntKind.i64 (↑i : Int)), (9, AVal.bool (hold (decide ((↑i : Int) < (↑n : Int)))))] [] [] Sto.empty))) := by kernel_rfl
theorem get_r (l : List Pr) (key : Txt) (Q : AVal → Sto → Prop) : vc Try.prog cGet code_18_ (endK Try.prog Try.f18.results.toList Q) (St.start Try.f18.ntmps [.slice (prv l) 4 .ro, .str key] (Sto.empty)) =
  (∀ (y : Bool), (y = List.any (List.map prOf (prv l)) fun (p : Pr) ↦ Pr.key p == key) → ∀ (y_1 : Int), (y_1 = if y = true then (↑(List.findIdx (fun (p : Pr) ↦ Pr.key p == key) (List.map prOf (prv l))) : Int) else (-1 : Int)) → gb (prsOk (prv l) 4) (brV (hold (decide (y_1 < (0 : Int)))) true (Q (AVal.tuple [AVal.agg [AVal.int IntKind.i64 (0 : Int), AVal.int IntKind.i64 (0 : Int), AVal.str []], AVal.bool false]) Sto.empty) (gb (decide ((0 : Int) ≤ y_1 ∧ y_1 < (↑(List.length (prv l)) : Int))) (gb (decide (3 ≤ List.length (List.drop 1 (elemAt (prv l) y_1)) ∧ 0 < 3) && (etaOk (Sh.int IntKind.i64) (List.getD (List.drop 1 (elemAt (prv l) y_1)) 0 AVal.undef) && (etaOk (Sh.int IntKind.i64) (List.getD (List.drop 1 (elemAt (prv l) y_1)) 1 AVal.undef) && (etaOk Sh.str (List.getD (List.drop 1 (elemAt (prv l) y_1)) 2 AVal.undef) && true)))) (Q (AVal.tuple [AVal.agg [AVal.int IntKind.i64 (AVal.intOf (List.getD (List.drop 1 (elemAt (prv l) y_1)) 0 AVal.undef)), AVal.int IntKind.i64 (AVal.intOf (List.getD (List.drop 1 (elemAt (prv l) y_1)) 1 AVal.undef)), AVal.str (AVal.strOf (List.getD (List.drop 1 (elemAt (prv l) y_1)) 2 AVal.undef))], AVal.bool true]) Sto.empty))))) := by kernel_rfl
theorem get_i (l : List Pr) (key : Txt) (Q : AVal → Sto → Prop) (ho : OrcOk Try.prog cGet) (h : ∀ (y : Bool), (y = List.any (List.map prOf (prv l)) fun (p : Pr) ↦ Pr.key p == key) → ∀ (y_1 : Int), (y_1 = if y = true then (↑(List.findIdx (fun (p : Pr) ↦ Pr.key p == key) (List.map prOf (prv l))) : Int) else (-1 : Int)) → gb (prsOk (prv l) 4) (brV (hold (decide (y_1 < (0 : Int)))) true (Q (AVal.tuple [AVal.agg [AVal.int IntKind.i64 (0 : Int), AVal.int IntKind.i64 (0 : Int), AVal.str []], AVal.bool false]) Sto.empty) (gb (decide ((0 : Int) ≤ y_1 ∧ y_1 < (↑(List.length (prv l)) : Int))) (gb (decide (3 ≤ List.length (List.drop 1 (elemAt (prv l) y_1)) ∧ 0 < 3) && (etaOk (Sh.int IntKind.i64) (List.getD (List.drop 1 (elemAt (prv l) y_1)) 0 AVal.undef) && (etaOk (Sh.int IntKind.i64) (List.getD (List.drop 1 (elemAt (prv l) y_1)) 1 AVal.undef) && (etaOk Sh.str (List.getD (List.drop 1 (elemAt (prv l) y_1)) 2 AVal.undef) && true)))) (Q (AVal.tuple [AVal.agg [AVal.int IntKind.i64 (AVal.intOf (List.getD (List.drop 1 (elemAt (prv l) y_1)) 0 AVal.undef)), AVal.int IntKind.i64 (AVal.intOf (List.getD (List.drop 1 (elemAt (prv l) y_1)) 1 AVal.undef)), AVal.str (AVal.strOf (List.getD (List.drop 1 (elemAt (prv l) y_1)) 2 AVal.undef))], AVal.bool true]) Sto.empty))))) : ACall Try.prog 18 [.slice (prv l) 4 .ro, .str key] (Sto.empty) Q :=
  ACall.intro hmix Try.func18 (c := code_18_) (by kernel_rfl) cGet ho (Nat.le_of_ble_eq_true (by kernel_rfl)) (by rw [get_r]; exact h)
theorem equal_r (a b : List Pr) (Q : AVal → Sto → Prop) : vc Try.prog cEqual code_31_ (endK Try.prog Try.f31.results.toList Q) (St.start Try.f31.ntmps [.slice (prv a) 4 .ro, .slice (prv b) 4 .ro] (Sto.empty)) =
  (brV (hold ((↑(List.length (prv a)) : Int) != (↑(List.length (prv b)) : Int))) true (Q (AVal.bool false) Sto.empty) (loopV (fun s => St.norm [] [0, 1, 12, 13] [] s) (vc Try.prog cEqual code_31_1_1_0_1_0_0) (blockK 0 (thenK (fun s => cutV (vc Try.prog cEqual code_31_1_1_1 (endK Try.prog (Array.toList (Go.Func.results Try.f31)) Q)) (St.norm [] [] [] s)) (endK Try.prog (Array.toList (Go.Func.results Try.f31)) Q))) (St.mk 26 [(0, AVal.slice (prv a) 4 Tag.ro), (1, AVal.slice (prv b) 4 Tag.ro), (12, AVal.int IntKind.i64 (↑(List.length (prv a)) : Int)), (13, AVal.int IntKind.i64 (0 : Int))] [] [] Sto.empty))) := by kernel_rfl
theorem equal_i (a b : List Pr) (Q : AVal → Sto → Prop) (ho : OrcOk Try.prog cEqual) (h : brV (hold ((↑(List.length (prv a)) : Int) != (↑(List.length (prv b)) : Int))) true (Q (AVal.bool false) Sto.empty) (loopV (fun s => St.norm [] [0, 1, 12, 13] [] s) (vc Try.prog cEqual code_31_1_1_0_1_0_0) (blockK 0 (thenK (fun s => cutV (vc Try.prog cEqual code_31_1_1_1 (endK Try.prog (Array.toList (Go.Func.results Try.f31)) Q)) (St.norm [] [] [] s)) (endK Try.prog (Array.toList (Go.Func.results Try.f31)) Q))) (St.mk 26 [(0, AVal.slice (prv a) 4 Tag.ro), (1, AVal.slice (prv b) 4 Tag.ro), (12, AVal.int IntKind.i64 (↑(List.length (prv a)) : Int)), (13, AVal.int IntKind.i64 (0 : Int))] [] [] Sto.empty))) : ACall Try.prog 31 [.slice (prv a) 4 .ro, .slice (prv b) 4 .ro] (Sto.empty) Q :=
  ACall.intro hmix Try.func31 (c := code_31_) (by kernel_rfl) cEqual ho (Nat.le_of_ble_eq_true (by kernel_rfl)) (by rw [equal_r]; exact h)
noncomputable def equalL_S (a b : List Pr) (n i : Nat) : St := St.mk 26 [(0, .slice (prv a) 4 .ro), (1, .slice (prv b) 4 .ro), (12, .int .i64 (n : Int)), (13, .int .i64 (i : Int))] [] [] (Sto.empty)
noncomputable abbrev equalL_C : Code := code_31_1_1_0_1_0_0
theorem equalL_r (a b : List Pr) (n i : Nat) (L : St → Prop) (K : Exit → St → Prop) : vc Try.prog cEqual code_31_1_1_0_1_0_0 (thenK (fun s => L (St.norm [] [0, 1, 12, 13] [] s)) K) (St.mk 26 [(0, .slice (prv a) 4 .ro), (1, .slice (prv b) 4 .ro), (12, .int .i64 (n : Int)), (13, .int .i64 (i : Int))] [] [] (Sto.empty)) =
  (brV (hold (decide ((↑i : Int) < (↑n : Int)))) true (gb (decide ((0 : Int) ≤ (↑i : Int) ∧ (↑i : Int) < (↑(List.length (prv a)) : Int))) (gb (decide (4 ≤ List.length (elemAt (prv a) (↑i : Int)) ∧ 0 < 4) && (etaOk Sh.str (List.getD (elemAt (prv a) (↑i : Int)) 0 AVal.undef) && (etaOk (Sh.int IntKind.i64) (List.getD (elemAt (prv a) (↑i : Int)) 1 AVal.undef) && (etaOk (Sh.int IntKind.i64) (List.getD (elemAt (prv a) (↑i : Int)) 2 AVal.undef) && (etaOk Sh.str (List.getD (elemAt (prv a) (↑i : Int)) 3 AVal.undef) && true))))) (gb (decide ((0 : Int) ≤ (↑i : Int) ∧ (↑i : Int) < (↑(List.length (prv b)) : Int))) (gb (decide (4 ≤ List.length (elemAt (prv b) (↑i : Int)) ∧ 0 < 4) && (etaOk Sh.str (List.getD (elemAt (prv b) (↑i : Int)) 0 AVal.undef) && (etaOk (Sh.int IntKind.i64) (List.getD (elemAt (prv b) (↑i : Int)) 1 AVal.undef) && (etaOk (Sh.int IntKind.i64) (List.getD (elemAt (prv b) (↑i : Int)) 2 AVal.undef) && (etaOk Sh.str (List.getD (elemAt (prv b) (↑i : Int)) 3 AVal.undef) && true))))) (brV (!hold (AVal.strOf (List.getD (elemAt (prv a) (↑i : Int)) 0 AVal.undef) == AVal.strOf (List.getD (elemAt (prv b) (↑i : Int)) 0 AVal.undef) && (AVal.intOf (List.getD (elemAt (prv a) (↑i : Int)) 1 AVal.undef) == AVal.intOf (List.getD (elemAt (prv b) (↑i : Int)) 1 AVal.undef) && (AVal.intOf (List.getD (elemAt (prv a) (↑i : Int)) 2 AVal.undef) == AVal.intOf (List.getD (elemAt (prv b) (↑i : Int)) 2 AVal.undef) && (AVal.strOf (List.getD (elemAt (prv a) (↑i : Int)) 3 AVal.undef) == AVal.strOf (List.getD (elemAt (prv b) (↑i : Int)) 3 AVal.undef) && true))))) true (K Exit.ret (St.mk 26 [(0, AVal.slice (prv a) 4 Tag.ro), (1, AVal.slice (prv b) 4 Tag.ro), (12, AVal.int IntKind.i64 (↑n : Int)), (13, AVal.int IntKind.i64 (↑i : Int)), (14, AVal.bool (hold (decide ((↑i : Int) < (↑n : Int))))), (5, AVal.int IntKind.i64 (↑i : Int)), (24, AVal.bool !hold (AVal.strOf (List.getD (elemAt (prv a) (↑i : Int)) 0 AVal.undef) == AVal.strOf (List.getD (elemAt (prv b) (↑i : Int)) 0 AVal.undef) && (AVal.intOf (List.getD (elemAt (prv a) (↑i : Int)) 1 AVal.undef) == AVal.intOf (List.getD (elemAt (prv b) (↑i : Int)) 1 AVal.undef) && (AVal.intOf (List.getD (elemAt (prv a) (↑i : Int)) 2 AVal.undef) == AVal.intOf (List.getD (elemAt (prv b) (↑i : Int)) 2 AVal.undef) && (AVal.strOf (List.getD (elemAt (prv a) (↑i : Int)) 3 AVal.undef) == AVal.strOf (List.getD (elemAt (prv b) (↑i : Int)) 3 AVal.undef) && true))))), (4, AVal.bool false)] [] [] Sto.empty)) (L (St.mk 26 [(0, AVal.slice (prv a) 4 Tag.ro), (1, AVal.slice (prv b) 4 Tag.ro), (12, AVal.int IntKind.i64 (↑n : Int)), (13, AVal.int IntKind.i64 (IntKind.wrap IntKind.i64 ((↑i : Int) + (1 : Int))))] [] [] Sto.empty))))))) (K (Exit.exit 0) (St.mk 26 [(0, AVal.slice (prv a) 4 Tag.ro), (1, AVal.slice (prv b) 4 Tag.ro), (12, AVal.int IntKind.i64 (↑n : Int)), (13, AVal.int IntKind.i64 (↑i : Int)), (14, AVal.bool (hold (decide ((↑i : Int) < (↑n : Int)))))] [] [] Sto.empty))) := by kernel_rfl
noncomputable def equalF_S  : St := St.mk 26 [] [] [] (Sto.empty)
noncomputable abbrev equalF_C : Code := code_31_1_1_1
theorem equalF_r  (Q : AVal → Sto → Prop) : vc Try.prog cEqual code_31_1_1_1 (endK Try.prog Try.f31.results.toList Q) (St.mk 26 [] [] [] (Sto.empty)) =
  (Q (AVal.bool true) Sto.empty) := by kernel_rfl
theorem same_r (a b : List Pr) (Q : AVal → Sto → Prop) : vc Try.prog cSame code_13_ (endK Try.prog Try.f13.results.toList Q) (St.start Try.f13.ntmps [.slice (prv a) 4 .ro, .slice (prv b) 4 .ro] (Sto.empty)) =
  (∀ (y : Bool), y = decide (List.map prOf (prv a) = List.map prOf (prv b)) → gb (prsOk (prv a) 4 && prsOk (prv b) 4) (Q (AVal.bool (hold y)) Sto.empty)) := by kernel_rfl
theorem same_i (a b : List Pr) (Q : AVal → Sto → Prop) (ho : OrcOk Try.prog cSame) (h : ∀ (y : Bool), y = decide (List.map prOf (prv a) = List.map prOf (prv b)) → gb (prsOk (prv a) 4 && prsOk (prv b) 4) (Q (AVal.bool (hold y)) Sto.empty)) : ACall Try.prog 13 [.slice (prv a) 4 .ro, .slice (prv b) 4 .ro] (Sto.empty) Q :=
  ACall.intro hmix Try.func13 (c := code_13_) (by kernel_rfl) cSame ho (Nat.le_of_ble_eq_true (by kernel_rfl)) (by rw [same_r]; exact h)
theorem bytes_r (l : List Pr) (Q : AVal → Sto → Prop) : vc Try.prog cBytes code_11_ (endK Try.prog Try.f11.results.toList Q) (St.start Try.f11.ntmps [.slice (prv l) 4 .ro] (Sto.empty)) =
  (∀ (y : Bool), y = (incP (List.map prOf (prv l)) && decide (List.length (List.map prOf (prv l)) ≤ 16)) → gb (prsOk (prv l) 4) (brV (!hold y) true (Q (AVal.tuple [AVal.slice [] 0 Tag.nil, AVal.int IntKind.i64 (2 : Int)]) Sto.empty) (loopV (fun s => St.norm [(4, 1)] [4, 16, 17, 18] [] s) (vc Try.prog cBytes code_11_1_1_1_0_1_0_0) (blockK 0 (thenK (fun s => cutV (vc Try.prog cBytes code_11_1_1_1_1 (endK Try.prog (Array.toList (Go.Func.results Try.f11)) Q)) (St.norm [(4, 1)] [4] [] s)) (endK Try.prog (Array.toList (Go.Func.results Try.f11)) Q))) (St.mk 42 [(4, AVal.slice [AVal.int IntKind.u8 (IntKind.wrap IntKind.u8 (↑(List.length (prv l)) : Int))] 1 (Tag.own 0)), (16, AVal.slice (prv l) 4 Tag.ro), (17, AVal.int IntKind.i64 (↑(List.length (prv l)) : Int)), (18, AVal.int IntKind.i64 (0 : Int))] [] [] (Sto.pushOwn Sto.empty 1))))) := by kernel_rfl
theorem bytes_i (l : List Pr) (Q : AVal → Sto → Prop) (ho : OrcOk Try.prog cBytes) (h : ∀ (y : Bool), y = (incP (List.map prOf (prv l)) && decide (List.length (List.map prOf (prv l)) ≤ 16)) → gb (prsOk (prv l) 4) (brV (!hold y) true (Q (AVal.tuple [AVal.slice [] 0 Tag.nil, AVal.int IntKind.i64 (2 : Int)]) Sto.empty) (loopV (fun s => St.norm [(4, 1)] [4, 16, 17, 18] [] s) (vc Try.prog cBytes code_11_1_1_1_0_1_0_0) (blockK 0 (thenK (fun s => cutV (vc Try.prog cBytes code_11_1_1_1_1 (endK Try.prog (Array.toList (Go.Func.results Try.f11)) Q)) (St.norm [(4, 1)] [4] [] s)) (endK Try.prog (Array.toList (Go.Func.results Try.f11)) Q))) (St.mk 42 [(4, AVal.slice [AVal.int IntKind.u8 (IntKind.wrap IntKind.u8 (↑(List.length (prv l)) : Int))] 1 (Tag.own 0)), (16, AVal.slice (prv l) 4 Tag.ro), (17, AVal.int IntKind.i64 (↑(List.length (prv l)) : Int)), (18, AVal.int IntKind.i64 (0 : Int))] [] [] (Sto.pushOwn Sto.empty 1))))) : ACall Try.prog 11 [.slice (prv l) 4 .ro] (Sto.empty) Q :=
  ACall.intro hmix Try.func11 (c := code_11_) (by kernel_rfl) cBytes ho (Nat.le_of_ble_eq_true (by kernel_rfl)) (by rw [bytes_r]; exact h)
noncomputable def bytesL_S (l : List Pr) (o : Txt) (n i : Nat) : St := St.mk 42 [(4, .slice (bw o) 1 (.own 0)), (16, .slice (prv l) 4 .ro), (17, .int .i64 (n : Int)), (18, .int .i64 (i : Int))] [] [] (Sto.pushOwn Sto.empty (bw o).length)
noncomputable abbrev bytesL_C : Code := code_11_1_1_1_0_1_0_0
theorem bytesL_r (l : List Pr) (o : Txt) (n i : Nat) (L : St → Prop) (K : Exit → St → Prop) : vc Try.prog cBytes code_11_1_1_1_0_1_0_0 (thenK (fun s => L (St.norm [(4, 1)] [4, 16, 17, 18] [] s)) K) (St.mk 42 [(4, .slice (bw o) 1 (.own 0)), (16, .slice (prv l) 4 .ro), (17, .int .i64 (n : Int)), (18, .int .i64 (i : Int))] [] [] (Sto.pushOwn Sto.empty (bw o).length)) =
  (brV (hold (decide ((↑i : Int) < (↑n : Int)))) true (gb (decide ((0 : Int) ≤ (↑i : Int) ∧ (↑i : Int) < (↑(List.length (prv l)) : Int))) (gb (decide (4 ≤ List.length (elemAt (prv l) (↑i : Int)) ∧ 0 < 4) && (etaOk Sh.str (List.getD (elemAt (prv l) (↑i : Int)) 0 AVal.undef) && (etaOk (Sh.int IntKind.i64) (List.getD (elemAt (prv l) (↑i : Int)) 1 AVal.undef) && (etaOk (Sh.int IntKind.i64) (List.getD (elemAt (prv l) (↑i : Int)) 2 AVal.undef) && (etaOk Sh.str (List.getD (elemAt (prv l) (↑i : Int)) 3 AVal.undef) && true))))) (∀ (y : Bool), y = okV (Vl.mk (AVal.intOf (List.getD (elemAt (prv l) (↑i : Int)) 1 AVal.undef)) (AVal.intOf (List.getD (elemAt (prv l) (↑i : Int)) 2 AVal.undef)) (AVal.strOf (List.getD (elemAt (prv l) (↑i : Int)) 3 AVal.undef))) → ∀ (y_1 : Txt), (y_1 = if y = true then bytesV (Vl.mk (AVal.intOf (List.getD (elemAt (prv l) (↑i : Int)) 1 AVal.undef)) (AVal.intOf (List.getD (elemAt (prv l) (↑i : Int)) 2 AVal.undef)) (AVal.strOf (List.getD (elemAt (prv l) (↑i : Int)) 3 AVal.undef))) else []) → gb (V.i64r (AVal.intOf (List.getD (elemAt (prv l) (↑i : Int)) 2 AVal.undef))) (gb (decide (decide (true = true ∧ some (List.length (bw o)) = some (List.length (bw o)) ∧ (List.length (bw o) + 1) * 1 ≤ 140737488355328 ∧ List.length (bw o) + 1 ≤ 9223372036854775807) = true ∧ true = true)) (gb (decide (decide (true = true ∧ some (List.length (bw o) + 1) = some (List.length (bw o ++ [AVal.int IntKind.u8 (IntKind.wrap IntKind.u8 (↑(List.length (AVal.strOf (List.getD (elemAt (prv l) (↑i : Int)) 0 AVal.undef))) : Int))])) ∧ (List.length (bw o ++ [AVal.int IntKind.u8 (IntKind.wrap IntKind.u8 (↑(List.length (AVal.strOf (List.getD (elemAt (prv l) (↑i : Int)) 0 AVal.undef))) : Int))]) + List.length (List.map ofByte (AVal.strOf (List.getD (elemAt (prv l) (↑i : Int)) 0 AVal.undef)))) * 1 ≤ 140737488355328 ∧ List.length (bw o ++ [AVal.int IntKind.u8 (IntKind.wrap IntKind.u8 (↑(List.length (AVal.strOf (List.getD (elemAt (prv l) (↑i : Int)) 0 AVal.undef))) : Int))]) + List.length (List.map ofByte (AVal.strOf (List.getD (elemAt (prv l) (↑i : Int)) 0 AVal.undef))) ≤ 9223372036854775807) = true ∧ true = true)) (gb (decide (decide (true = true ∧ some (List.length (bw o ++ [AVal.int IntKind.u8 (IntKind.wrap IntKind.u8 (↑(List.length (AVal.strOf (List.getD (elemAt (prv l) (↑i : Int)) 0 AVal.undef))) : Int))]) + List.length (List.map ofByte (AVal.strOf (List.getD (elemAt (prv l) (↑i : Int)) 0 AVal.undef)))) = some (List.length (bw o ++ [AVal.int IntKind.u8 (IntKind.wrap IntKind.u8 (↑(List.length (AVal.strOf (List.getD (elemAt (prv l) (↑i : Int)) 0 AVal.undef))) : Int))] ++ List.map ofByte (AVal.strOf (List.getD (elemAt (prv l) (↑i : Int)) 0 AVal.undef)))) ∧ (List.length (bw o ++ [AVal.int IntKind.u8 (IntKind.wrap IntKind.u8 (↑(List.length (AVal.strOf (List.getD (elemAt (prv l) (↑i : Int)) 0 AVal.undef))) : Int))] ++ List.map ofByte (AVal.strOf (List.getD (elemAt (prv l) (↑i : Int)) 0 AVal.undef))) + List.length (bw y_1)) * 1 ≤ 140737488355328 ∧ List.length (bw o ++ [AVal.int IntKind.u8 (IntKind.wrap IntKind.u8 (↑(List.length (AVal.strOf (List.getD (elemAt (prv l) (↑i : Int)) 0 AVal.undef))) : Int))] ++ List.map ofByte (AVal.strOf (List.getD (elemAt (prv l) (↑i : Int)) 0 AVal.undef))) + List.length (bw y_1) ≤ 9223372036854775807) = true ∧ true = true)) (L (St.mk 42 [(4, AVal.slice (bw o ++ [AVal.int IntKind.u8 (IntKind.wrap IntKind.u8 (↑(List.length (AVal.strOf (List.getD (elemAt (prv l) (↑i : Int)) 0 AVal.undef))) : Int))] ++ List.map ofByte (AVal.strOf (List.getD (elemAt (prv l) (↑i : Int)) 0 AVal.undef)) ++ bw y_1) 1 (Tag.own 0)), (16, AVal.slice (prv l) 4 Tag.ro), (17, AVal.int IntKind.i64 (↑n : Int)), (18, AVal.int IntKind.i64 (IntKind.wrap IntKind.i64 ((↑i : Int) + (1 : Int))))] [] [] (Sto.setOwn (Sto.setOwn (Sto.setOwn (Sto.pushOwn Sto.empty (List.length (bw o))) 0 (List.length (bw o) + 1)) 0 (List.length (bw o ++ [AVal.int IntKind.u8 (IntKind.wrap IntKind.u8 (↑(List.length (AVal.strOf (List.getD (elemAt (prv l) (↑i : Int)) 0 AVal.undef))) : Int))]) + List.length (List.map ofByte (AVal.strOf (List.getD (elemAt (prv l) (↑i : Int)) 0 AVal.undef))))) 0 (List.length (bw o ++ [AVal.int IntKind.u8 (IntKind.wrap IntKind.u8 (↑(List.length (AVal.strOf (List.getD (elemAt (prv l) (↑i : Int)) 0 AVal.undef))) : Int))] ++ List.map ofByte (AVal.strOf (List.getD (elemAt (prv l) (↑i : Int)) 0 AVal.undef))) + List.length (bw y_1))))))))))) (K (Exit.exit 0) (St.mk 42 [(4, AVal.slice (bw o) 1 (Tag.own 0)), (16, AVal.slice (prv l) 4 Tag.ro), (17, AVal.int IntKind.i64 (↑n : Int)), (18, AVal.int IntKind.i64 (↑i : Int)), (19, AVal.bool (hold (decide ((↑i : Int) < (↑n : Int)))))] [] [] (Sto.pushOwn Sto.empty (List.length (bw o)))))) := by kernel_rfl
noncomputable def bytesF_S (o : Txt) : St := St.mk 42 [(4, .slice (bw o) 1 (.own 0))] [] [] (Sto.pushOwn Sto.empty (bw o).length)
noncomputable abbrev bytesF_C : Code := code_11_1_1_1_1
theorem bytesF_r (o : Txt) (Q : AVal → Sto → Prop) : vc Try.prog cBytes code_11_1_1_1_1 (endK Try.prog Try.f11.results.toList Q) (St.mk 42 [(4, .slice (bw o) 1 (.own 0))] [] [] (Sto.pushOwn Sto.empty (bw o).length)) =
  (Q (AVal.tuple [AVal.slice (bw o) 1 (Tag.own 0), AVal.int IntKind.i64 (0 : Int)]) (Sto.pushOwn Sto.empty (List.length (bw o)))) := by kernel_rfl
theorem rightR_r (l : List Pr) (Q : AVal → Sto → Prop) : vc Try.prog cRightR code_10_ (endK Try.prog Try.f10.results.toList Q) (St.start Try.f10.ntmps [.slice (prv l) 4 .ro] (Sto.empty)) =
  (brV (hold (decide ((16 : Int) < (↑(List.length (prv l)) : Int)))) true (Q (AVal.bool false) Sto.empty) (loopV (fun s => St.norm [] [0, 3] [] s) (vc Try.prog cRightR code_10_1_1_0_1_0_0) (blockK 0 (thenK (fun s => cutV (vc Try.prog cRightR code_10_1_1_1 (endK Try.prog (Array.toList (Go.Func.results Try.f10)) Q)) (St.norm [] [] [] s)) (endK Try.prog (Array.toList (Go.Func.results Try.f10)) Q))) (St.mk 46 [(0, AVal.slice (prv l) 4 Tag.ro), (3, AVal.int IntKind.i64 (0 : Int))] [] [] Sto.empty))) := by kernel_rfl
theorem rightR_i (l : List Pr) (Q : AVal → Sto → Prop) (ho : OrcOk Try.prog cRightR) (h : brV (hold (decide ((16 : Int) < (↑(List.length (prv l)) : Int)))) true (Q (AVal.bool false) Sto.empty) (loopV (fun s => St.norm [] [0, 3] [] s) (vc Try.prog cRightR code_10_1_1_0_1_0_0) (blockK 0 (thenK (fun s => cutV (vc Try.prog cRightR code_10_1_1_1 (endK Try.prog (Array.toList (Go.Func.results Try.f10)) Q)) (St.norm [] [] [] s)) (endK Try.prog (Array.toList (Go.Func.results Try.f10)) Q))) (St.mk 46 [(0, AVal.slice (prv l) 4 Tag.ro), (3, AVal.int IntKind.i64 (0 : Int))] [] [] Sto.empty))) : ACall Try.prog 10 [.slice (prv l) 4 .ro] (Sto.empty) Q :=
  ACall.intro hmix Try.func10 (c := code_10_) (by kernel_rfl) cRightR ho (Nat.le_of_ble_eq_true (by kernel_rfl)) (by rw [rightR_r]; exact h)
noncomputable def rightRL_S (l : List Pr) (i : Nat) : St := St.mk 46 [(0, .slice (prv l) 4 .ro), (3, .int .i64 (i : Int))] [] [] (Sto.empty)
noncomputable abbrev rightRL_C : Code := code_10_1_1_0_1_0_0
theorem rightRL_r (l : List Pr) (i : Nat) (L : St → Prop) (K : Exit → St → Prop) : vc Try.prog cRightR code_10_1_1_0_1_0_0 (thenK (fun s => L (St.norm [] [0, 3] [] s)) K) (St.mk 46 [(0, .slice (prv l) 4 .ro), (3, .int .i64 (i : Int))] [] [] (Sto.empty)) =
  (brV (hold (decide ((↑i : Int) < (↑(List.length (prv l)) : Int)))) true (gb (decide ((0 : Int) ≤ (↑i : Int) ∧ (↑i : Int) < (↑(List.length (prv l)) : Int))) (gb (decide (1 ≤ List.length (List.drop 0 (elemAt (prv l) (↑i : Int))) ∧ 0 < 1) && etaOk Sh.str (List.getD (List.drop 0 (elemAt (prv l) (↑i : Int))) 0 AVal.undef)) (gb (Lt.lenT (AVal.strOf (List.getD (List.drop 0 (elemAt (prv l) (↑i : Int))) 0 AVal.undef))) (brV (!hold (nameT (AVal.strOf (List.getD (List.drop 0 (elemAt (prv l) (↑i : Int))) 0 AVal.undef)))) false (gb (decide ((0 : Int) ≤ (↑i : Int) ∧ (↑i : Int) < (↑(List.length (prv l)) : Int))) (gb (decide (3 ≤ List.length (List.drop 1 (elemAt (prv l) (↑i : Int))) ∧ 0 < 3) && (etaOk (Sh.int IntKind.i64) (List.getD (List.drop 1 (elemAt (prv l) (↑i : Int))) 0 AVal.undef) && (etaOk (Sh.int IntKind.i64) (List.getD (List.drop 1 (elemAt (prv l) (↑i : Int))) 1 AVal.undef) && (etaOk Sh.str (List.getD (List.drop 1 (elemAt (prv l) (↑i : Int))) 2 AVal.undef) && true)))) (brV (!hold (okV (Vl.mk (AVal.intOf (List.getD (List.drop 1 (elemAt (prv l) (↑i : Int))) 0 AVal.undef)) (AVal.intOf (List.getD (List.drop 1 (elemAt (prv l) (↑i : Int))) 1 AVal.undef)) (AVal.strOf (List.getD (List.drop 1 (elemAt (prv l) (↑i : Int))) 2 AVal.undef))))) true (K Exit.ret (St.mk 46 [(0, AVal.slice (prv l) 4 Tag.ro), (3, AVal.int IntKind.i64 (↑i : Int)), (10, AVal.bool (hold (decide ((↑i : Int) < (↑(List.length (prv l)) : Int))))), (28, AVal.bool !hold (okV (Vl.mk (AVal.intOf (List.getD (List.drop 1 (elemAt (prv l) (↑i : Int))) 0 AVal.undef)) (AVal.intOf (List.getD (List.drop 1 (elemAt (prv l) (↑i : Int))) 1 AVal.undef)) (AVal.strOf (List.getD (List.drop 1 (elemAt (prv l) (↑i : Int))) 2 AVal.undef))))), (2, AVal.bool false)] [] [] Sto.empty)) (cutV (vc Try.prog cRightR code_10_1_1_0_1_0_0_1_0_0_1 (blockK 1 (thenK (vc Try.prog cRightR code_10_1_1_0_1_0_0_1_1 (thenK (fun s => L (St.norm [] [0, 3] [] s)) K)) (thenK (fun s => L (St.norm [] [0, 3] [] s)) K)))) (St.mk 46 [(0, AVal.slice (prv l) 4 Tag.ro), (3, AVal.int IntKind.i64 (↑i : Int))] [] [] Sto.empty))))) (K Exit.ret (St.mk 46 [(0, AVal.slice (prv l) 4 Tag.ro), (3, AVal.int IntKind.i64 (↑i : Int)), (10, AVal.bool (hold (decide ((↑i : Int) < (↑(List.length (prv l)) : Int))))), (28, AVal.bool true), (2, AVal.bool false)] [] [] Sto.empty)))))) (K (Exit.exit 0) (St.mk 46 [(0, AVal.slice (prv l) 4 Tag.ro), (3, AVal.int IntKind.i64 (↑i : Int)), (10, AVal.bool (hold (decide ((↑i : Int) < (↑(List.length (prv l)) : Int)))))] [] [] Sto.empty))) := by kernel_rfl
noncomputable def rightRS_S (l : List Pr) (i : Nat) : St := St.mk 46 [(0, .slice (prv l) 4 .ro), (3, .int .i64 (i : Int))] [] [] (Sto.empty)
noncomputable abbrev rightRS_C : Code := code_10_1_1_0_1_0_0_1_0_0_1
theorem rightRS_r (l : List Pr) (i : Nat) (K : Exit → St → Prop) : vc Try.prog cRightR code_10_1_1_0_1_0_0_1_0_0_1 K (St.mk 46 [(0, .slice (prv l) 4 .ro), (3, .int .i64 (i : Int))] [] [] (Sto.empty)) =
  (brV (hold (decide ((0 : Int) < (↑i : Int)))) true (gb (decide ((0 : Int) ≤ IntKind.wrap IntKind.i64 ((↑i : Int) - (1 : Int)) ∧ IntKind.wrap IntKind.i64 ((↑i : Int) - (1 : Int)) < (↑(List.length (prv l)) : Int))) (gb (decide (1 ≤ List.length (List.drop 0 (elemAt (prv l) (IntKind.wrap IntKind.i64 ((↑i : Int) - (1 : Int))))) ∧ 0 < 1) && etaOk Sh.str (List.getD (List.drop 0 (elemAt (prv l) (IntKind.wrap IntKind.i64 ((↑i : Int) - (1 : Int))))) 0 AVal.undef)) (gb (decide ((0 : Int) ≤ (↑i : Int) ∧ (↑i : Int) < (↑(List.length (prv l)) : Int))) (gb (decide (1 ≤ List.length (List.drop 0 (elemAt (prv l) (↑i : Int))) ∧ 0 < 1) && etaOk Sh.str (List.getD (List.drop 0 (elemAt (prv l) (↑i : Int))) 0 AVal.undef)) (∀ (y : Int), y = cmpR (runeL (AVal.strOf (List.getD (List.drop 0 (elemAt (prv l) (IntKind.wrap IntKind.i64 ((↑i : Int) - (1 : Int))))) 0 AVal.undef))) (runeL (AVal.strOf (List.getD (List.drop 0 (elemAt (prv l) (↑i : Int))) 0 AVal.undef))) → gb (Lt.lenT (AVal.strOf (List.getD (List.drop 0 (elemAt (prv l) (IntKind.wrap IntKind.i64 ((↑i : Int) - (1 : Int))))) 0 AVal.undef)) && Lt.lenT (AVal.strOf (List.getD (List.drop 0 (elemAt (prv l) (↑i : Int))) 0 AVal.undef))) (brV (hold (decide ((0 : Int) ≤ y))) true (K Exit.ret (St.mk 46 [(0, AVal.slice (prv l) 4 Tag.ro), (3, AVal.int IntKind.i64 (↑i : Int)), (45, AVal.bool (hold (decide ((0 : Int) ≤ y)))), (2, AVal.bool false)] [] [] Sto.empty)) (K Exit.normal (St.mk 46 [(0, AVal.slice (prv l) 4 Tag.ro), (3, AVal.int IntKind.i64 (↑i : Int)), (45, AVal.bool (hold (decide ((0 : Int) ≤ y))))] [] [] Sto.empty)))))))) (K Exit.normal (St.mk 46 [(0, AVal.slice (prv l) 4 Tag.ro), (3, AVal.int IntKind.i64 (↑i : Int)), (45, AVal.bool false)] [] [] Sto.empty))) := by kernel_rfl
noncomputable def rightRF_S  : St := St.mk 46 [] [] [] (Sto.empty)
noncomputable abbrev rightRF_C : Code := code_10_1_1_1
theorem rightRF_r  (Q : AVal → Sto → Prop) : vc Try.prog cRightR code_10_1_1_1 (endK Try.prog Try.f10.results.toList Q) (St.mk 46 [] [] [] (Sto.empty)) =
  (Q (AVal.bool true) Sto.empty) := by kernel_rfl
theorem findR_r (l : List Pr) (key : Txt) (Q : AVal → Sto → Prop) : vc Try.prog cFindR code_16_ (endK Try.prog Try.f16.results.toList Q) (St.start Try.f16.ntmps [.slice (prv l) 4 .ro, .str key] (Sto.empty)) =
  (loopV (fun s => St.norm [] [0, 1, 5] [] s) (vc Try.prog cFindR code_16_1_0_1_0_0) (blockK 0 (thenK (vc Try.prog cFindR code_16_1_1 (endK Try.prog (Array.toList (Go.Func.results Try.f16)) Q)) (endK Try.prog (Array.toList (Go.Func.results Try.f16)) Q))) (St.mk 20 [(0, AVal.slice (prv l) 4 Tag.ro), (1, AVal.str key), (5, AVal.int IntKind.i64 (0 : Int))] [] [] Sto.empty)) := by kernel_rfl
theorem findR_i (l : List Pr) (key : Txt) (Q : AVal → Sto → Prop) (ho : OrcOk Try.prog cFindR) (h : loopV (fun s => St.norm [] [0, 1, 5] [] s) (vc Try.prog cFindR code_16_1_0_1_0_0) (blockK 0 (thenK (vc Try.prog cFindR code_16_1_1 (endK Try.prog (Array.toList (Go.Func.results Try.f16)) Q)) (endK Try.prog (Array.toList (Go.Func.results Try.f16)) Q))) (St.mk 20 [(0, AVal.slice (prv l) 4 Tag.ro), (1, AVal.str key), (5, AVal.int IntKind.i64 (0 : Int))] [] [] Sto.empty)) : ACall Try.prog 16 [.slice (prv l) 4 .ro, .str key] (Sto.empty) Q :=
  ACall.intro hmix Try.func16 (c := code_16_) (by kernel_rfl) cFindR ho (Nat.le_of_ble_eq_true (by kernel_rfl)) (by rw [findR_r]; exact h)
noncomputable def findRL_S (l : List Pr) (key : Txt) (i : Nat) : St := St.mk 20 [(0, .slice (prv l) 4 .ro), (1, .str key), (5, .int .i64 (i : Int))] [] [] (Sto.empty)
noncomputable abbrev findRL_C : Code := code_16_1_0_1_0_0
theorem findRL_r (l : List Pr) (key : Txt) (i : Nat) (L : St → Prop) (K : Exit → St → Prop) : vc Try.prog cFindR code_16_1_0_1_0_0 (thenK (fun s => L (St.norm [] [0, 1, 5] [] s)) K) (St.mk 20 [(0, .slice (prv l) 4 .ro), (1, .str key), (5, .int .i64 (i : Int))] [] [] (Sto.empty)) =
  (brV (hold (decide ((↑i : Int) < (↑(List.length (prv l)) : Int)))) true (gb (decide ((0 : Int) ≤ (↑i : Int) ∧ (↑i : Int) < (↑(List.length (prv l)) : Int))) (gb (decide (1 ≤ List.length (List.drop 0 (elemAt (prv l) (↑i : Int))) ∧ 0 < 1) && etaOk Sh.str (List.getD (List.drop 0 (elemAt (prv l) (↑i : Int))) 0 AVal.undef)) (brV (hold (AVal.strOf (List.getD (List.drop 0 (elemAt (prv l) (↑i : Int))) 0 AVal.undef) == key)) true (K Exit.ret (St.mk 20 [(0, AVal.slice (prv l) 4 Tag.ro), (1, AVal.str key), (5, AVal.int IntKind.i64 (↑i : Int)), (9, AVal.bool (hold (decide ((↑i : Int) < (↑(List.length (prv l)) : Int))))), (18, AVal.bool (hold (AVal.strOf (List.getD (List.drop 0 (elemAt (prv l) (↑i : Int))) 0 AVal.undef) == key))), (4, AVal.int IntKind.i64 (↑i : Int))] [] [] Sto.empty)) (L (St.mk 20 [(0, AVal.slice (prv l) 4 Tag.ro), (1, AVal.str key), (5, AVal.int IntKind.i64 (IntKind.wrap IntKind.i64 ((↑i : Int) + (1 : Int))))] [] [] Sto.empty))))) (K (Exit.exit 0) (St.mk 20 [(0, AVal.slice (prv l) 4 Tag.ro), (1, AVal.str key), (5, AVal.int IntKind.i64 (↑i : Int)), (9, AVal.bool (hold (decide ((↑i : Int) < (↑(List.length (prv l)) : Int)))))] [] [] Sto.empty))) := by kernel_rfl
theorem sameR_r (a b : List Pr) (Q : AVal → Sto → Prop) : vc Try.prog cSameR code_12_ (endK Try.prog Try.f12.results.toList Q) (St.start Try.f12.ntmps [.slice (prv a) 4 .ro, .slice (prv b) 4 .ro] (Sto.empty)) =
  (brV (hold ((↑(List.length (prv a)) : Int) != (↑(List.length (prv b)) : Int))) true (Q (AVal.bool false) Sto.empty) (loopV (fun s => St.norm [] [0, 1, 5] [] s) (vc Try.prog cSameR code_12_1_1_0_1_0_0) (blockK 0 (thenK (vc Try.prog cSameR code_12_1_1_1 (endK Try.prog (Array.toList (Go.Func.results Try.f12)) Q)) (endK Try.prog (Array.toList (Go.Func.results Try.f12)) Q))) (St.mk 26 [(0, AVal.slice (prv a) 4 Tag.ro), (1, AVal.slice (prv b) 4 Tag.ro), (5, AVal.int IntKind.i64 (0 : Int))] [] [] Sto.empty))) := by kernel_rfl
theorem sameR_i (a b : List Pr) (Q : AVal → Sto → Prop) (ho : OrcOk Try.prog cSameR) (h : brV (hold ((↑(List.length (prv a)) : Int) != (↑(List.length (prv b)) : Int))) true (Q (AVal.bool false) Sto.empty) (loopV (fun s => St.norm [] [0, 1, 5] [] s) (vc Try.prog cSameR code_12_1_1_0_1_0_0) (blockK 0 (thenK (vc Try.prog cSameR code_12_1_1_1 (endK Try.prog (Array.toList (Go.Func.results Try.f12)) Q)) (endK Try.prog (Array.toList (Go.Func.results Try.f12)) Q))) (St.mk 26 [(0, AVal.slice (prv a) 4 Tag.ro), (1, AVal.slice (prv b) 4 Tag.ro), (5, AVal.int IntKind.i64 (0 : Int))] [] [] Sto.empty))) : ACall Try.prog 12 [.slice (prv a) 4 .ro, .slice (prv b) 4 .ro] (Sto.empty) Q :=
  ACall.intro hmix Try.func12 (c := code_12_) (by kernel_rfl) cSameR ho (Nat.le_of_ble_eq_true (by kernel_rfl)) (by rw [sameR_r]; exact h)
noncomputable def sameRL_S (a b : List Pr) (i : Nat) : St := St.mk 26 [(0, .slice (prv a) 4 .ro), (1, .slice (prv b) 4 .ro), (5, .int .i64 (i : Int))] [] [] (Sto.empty)
noncomputable abbrev sameRL_C : Code := code_12_1_1_0_1_0_0
theorem sameRL_r (a b : List Pr) (i : Nat) (L : St → Prop) (K : Exit → St → Prop) : vc Try.prog cSameR code_12_1_1_0_1_0_0 (thenK (fun s => L (St.norm [] [0, 1, 5] [] s)) K) (St.mk 26 [(0, .slice (prv a) 4 .ro), (1, .slice (prv b) 4 .ro), (5, .int .i64 (i : Int))] [] [] (Sto.empty)) =
  (brV (hold (decide ((↑i : Int) < (↑(List.length (prv a)) : Int)))) true (gb (decide ((0 : Int) ≤ (↑i : Int) ∧ (↑i : Int) < (↑(List.length (prv a)) : Int))) (gb (decide (4 ≤ List.length (elemAt (prv a) (↑i : Int)) ∧ 0 < 4) && (etaOk Sh.str (List.getD (elemAt (prv a) (↑i : Int)) 0 AVal.undef) && (etaOk (Sh.int IntKind.i64) (List.getD (elemAt (prv a) (↑i : Int)) 1 AVal.undef) && (etaOk (Sh.int IntKind.i64) (List.getD (elemAt (prv a) (↑i : Int)) 2 AVal.undef) && (etaOk Sh.str (List.getD (elemAt (prv a) (↑i : Int)) 3 AVal.undef) && true))))) (gb (decide ((0 : Int) ≤ (↑i : Int) ∧ (↑i : Int) < (↑(List.length (prv b)) : Int))) (gb (decide (4 ≤ List.length (elemAt (prv b) (↑i : Int)) ∧ 0 < 4) && (etaOk Sh.str (List.getD (elemAt (prv b) (↑i : Int)) 0 AVal.undef) && (etaOk (Sh.int IntKind.i64) (List.getD (elemAt (prv b) (↑i : Int)) 1 AVal.undef) && (etaOk (Sh.int IntKind.i64) (List.getD (elemAt (prv b) (↑i : Int)) 2 AVal.undef) && (etaOk Sh.str (List.getD (elemAt (prv b) (↑i : Int)) 3 AVal.undef) && true))))) (brV (!hold (AVal.strOf (List.getD (elemAt (prv a) (↑i : Int)) 0 AVal.undef) == AVal.strOf (List.getD (elemAt (prv b) (↑i : Int)) 0 AVal.undef) && (AVal.intOf (List.getD (elemAt (prv a) (↑i : Int)) 1 AVal.undef) == AVal.intOf (List.getD (elemAt (prv b) (↑i : Int)) 1 AVal.undef) && (AVal.intOf (List.getD (elemAt (prv a) (↑i : Int)) 2 AVal.undef) == AVal.intOf (List.getD (elemAt (prv b) (↑i : Int)) 2 AVal.undef) && (AVal.strOf (List.getD (elemAt (prv a) (↑i : Int)) 3 AVal.undef) == AVal.strOf (List.getD (elemAt (prv b) (↑i : Int)) 3 AVal.undef) && true))))) true (K Exit.ret (St.mk 26 [(0, AVal.slice (prv a) 4 Tag.ro), (1, AVal.slice (prv b) 4 Tag.ro), (5, AVal.int IntKind.i64 (↑i : Int)), (14, AVal.bool (hold (decide ((↑i : Int) < (↑(List.length (prv a)) : Int))))), (25, AVal.bool !hold (AVal.strOf (List.getD (elemAt (prv a) (↑i : Int)) 0 AVal.undef) == AVal.strOf (List.getD (elemAt (prv b) (↑i : Int)) 0 AVal.undef) && (AVal.intOf (List.getD (elemAt (prv a) (↑i : Int)) 1 AVal.undef) == AVal.intOf (List.getD (elemAt (prv b) (↑i : Int)) 1 AVal.undef) && (AVal.intOf (List.getD (elemAt (prv a) (↑i : Int)) 2 AVal.undef) == AVal.intOf (List.getD (elemAt (prv b) (↑i : Int)) 2 AVal.undef) && (AVal.strOf (List.getD (elemAt (prv a) (↑i : Int)) 3 AVal.undef) == AVal.strOf (List.getD (elemAt (prv b) (↑i : Int)) 3 AVal.undef) && true))))), (4, AVal.bool false)] [] [] Sto.empty)) (L (St.mk 26 [(0, AVal.slice (prv a) 4 Tag.ro), (1, AVal.slice (prv b) 4 Tag.ro), (5, AVal.int IntKind.i64 (IntKind.wrap IntKind.i64 ((↑i : Int) + (1 : Int))))] [] [] Sto.empty))))))) (K (Exit.exit 0) (St.mk 26 [(0, AVal.slice (prv a) 4 Tag.ro), (1, AVal.slice (prv b) 4 Tag.ro), (5, AVal.int IntKind.i64 (↑i : Int)), (14, AVal.bool (hold (decide ((↑i : Int) < (↑(List.length (prv a)) : Int)))))] [] [] Sto.empty))) := by kernel_rfl
theorem putR_r (l : List Pr) (key : Txt) (k n : Int) (s : Txt) (Q : AVal → Sto → Prop) : vc Try.prog cPutR code_43_ (endK Try.prog Try.f43.results.toList Q) (St.start Try.f43.ntmps [.slice (prv l) 4 .ro, .agg [.str key, .int .i64 k, .int .i64 n, .str s]] (Sto.empty)) =
  (loopV (fun s => St.norm [(5, 4)] [0, 3, 5, 6, 7] [3] s) (vc Try.prog cPutR code_43_1_1_1_0_1_0_0) (blockK 0 (thenK (fun s => cutV (vc Try.prog cPutR code_43_1_1_1_1 (endK Try.prog (Array.toList (Go.Func.results Try.f43)) Q)) (St.norm [(5, 4)] [3, 5, 6] [3] s)) (endK Try.prog (Array.toList (Go.Func.results Try.f43)) Q))) (St.mk 49 [(0, AVal.slice (prv l) 4 Tag.ro), (3, AVal.ptr (Oid.loc 3) 0), (5, AVal.slice [] 4 (Tag.own 0)), (6, AVal.bool false), (7, AVal.int IntKind.i64 (0 : Int))] [] [(3, AObj.cells [AVal.str key, AVal.int IntKind.i64 k, AVal.int IntKind.i64 n, AVal.str s])] (Sto.pushOwn Sto.empty 0))) := by kernel_rfl
theorem putR_i (l : List Pr) (key : Txt) (k n : Int) (s : Txt) (Q : AVal → Sto → Prop) (ho : OrcOk Try.prog cPutR) (h : loopV (fun s => St.norm [(5, 4)] [0, 3, 5, 6, 7] [3] s) (vc Try.prog cPutR code_43_1_1_1_0_1_0_0) (blockK 0 (thenK (fun s => cutV (vc Try.prog cPutR code_43_1_1_1_1 (endK Try.prog (Array.toList (Go.Func.results Try.f43)) Q)) (St.norm [(5, 4)] [3, 5, 6] [3] s)) (endK Try.prog (Array.toList (Go.Func.results Try.f43)) Q))) (St.mk 49 [(0, AVal.slice (prv l) 4 Tag.ro), (3, AVal.ptr (Oid.loc 3) 0), (5, AVal.slice [] 4 (Tag.own 0)), (6, AVal.bool false), (7, AVal.int IntKind.i64 (0 : Int))] [] [(3, AObj.cells [AVal.str key, AVal.int IntKind.i64 k, AVal.int IntKind.i64 n, AVal.str s])] (Sto.pushOwn Sto.empty 0))) : ACall Try.prog 43 [.slice (prv l) 4 .ro, .agg [.str key, .int .i64 k, .int .i64 n, .str s]] (Sto.empty) Q :=
  ACall.intro hmix Try.func43 (c := code_43_) (by kernel_rfl) cPutR ho (Nat.le_of_ble_eq_true (by kernel_rfl)) (by rw [putR_r]; exact h)
noncomputable def putRL_S (l o : List Pr) (key : Txt) (k n : Int) (s : Txt) (d : Bool) (i : Nat) : St := St.mk 49 [(0, .slice (prv l) 4 .ro), (3, .ptr (.loc 3) 0), (5, .slice (prv o) 4 (.own 0)), (6, .bool d), (7, .int .i64 (i : Int))] [] [(3, .cells [.str key, .int .i64 k, .int .i64 n, .str s])] (Sto.pushOwn Sto.empty (prv o).length)
noncomputable abbrev putRL_C : Code := code_43_1_1_1_0_1_0_0
theorem putRL_r (l o : List Pr) (key : Txt) (k n : Int) (s : Txt) (d : Bool) (i : Nat) (L : St → Prop) (K : Exit → St → Prop) : vc Try.prog cPutR code_43_1_1_1_0_1_0_0 (thenK (fun s => L (St.norm [(5, 4)] [0, 3, 5, 6, 7] [3] s)) K) (St.mk 49 [(0, .slice (prv l) 4 .ro), (3, .ptr (.loc 3) 0), (5, .slice (prv o) 4 (.own 0)), (6, .bool d), (7, .int .i64 (i : Int))] [] [(3, .cells [.str key, .int .i64 k, .int .i64 n, .str s])] (Sto.pushOwn Sto.empty (prv o).length)) =
  (brV (hold (decide ((↑i : Int) < (↑(List.length (prv l)) : Int)))) true (gb (decide ((0 : Int) ≤ (↑i : Int) ∧ (↑i : Int) < (↑(List.length (prv l)) : Int))) (gb (decide (1 ≤ List.length (List.drop 0 (elemAt (prv l) (↑i : Int))) ∧ 0 < 1) && etaOk Sh.str (List.getD (List.drop 0 (elemAt (prv l) (↑i : Int))) 0 AVal.undef)) (∀ (y : Int), y = cmpR (runeL (AVal.strOf (List.getD (List.drop 0 (elemAt (prv l) (↑i : Int))) 0 AVal.undef))) (runeL key) → gb (Lt.lenT (AVal.strOf (List.getD (List.drop 0 (elemAt (prv l) (↑i : Int))) 0 AVal.undef)) && Lt.lenT key) (brV (hold (decide ((0 : Int) ≤ y))) true (brV (!d) true (gb (decide (decide (true = true ∧ some (List.length (prv o)) = some (List.length (prv o)) ∧ (List.length (prv o) + 1) * 48 ≤ 140737488355328 ∧ List.length (prv o) + 1 ≤ 9223372036854775807) = true ∧ true = true)) (cutV (vc Try.prog cPutR code_43_1_1_1_0_1_0_0_1_0_0_1_1 (blockK 1 (thenK (vc Try.prog cPutR code_43_1_1_1_0_1_0_0_1_1 (thenK (fun s => L (St.norm [(5, 4)] [0, 3, 5, 6, 7] [3] s)) K)) (thenK (fun s => L (St.norm [(5, 4)] [0, 3, 5, 6, 7] [3] s)) K)))) (St.mk 49 [(0, AVal.slice (prv l) 4 Tag.ro), (3, AVal.ptr (Oid.loc 3) 0), (5, AVal.slice (prv o ++ [AVal.agg [AVal.str key, AVal.int IntKind.i64 k, AVal.int IntKind.i64 n, AVal.str s]]) 4 (Tag.own 0)), (6, AVal.bool true), (7, AVal.int IntKind.i64 (↑i : Int)), (8, AVal.int IntKind.i64 y)] [] [(3, AObj.cells [AVal.str key, AVal.int IntKind.i64 k, AVal.int IntKind.i64 n, AVal.str s])] (Sto.setOwn (Sto.pushOwn Sto.empty (List.length (prv o))) 0 (List.length (prv o) + 1))))) (cutV (vc Try.prog cPutR code_43_1_1_1_0_1_0_0_1_0_0_1_1 (blockK 1 (thenK (vc Try.prog cPutR code_43_1_1_1_0_1_0_0_1_1 (thenK (fun s => L (St.norm [(5, 4)] [0, 3, 5, 6, 7] [3] s)) K)) (thenK (fun s => L (St.norm [(5, 4)] [0, 3, 5, 6, 7] [3] s)) K)))) (St.mk 49 [(0, AVal.slice (prv l) 4 Tag.ro), (3, AVal.ptr (Oid.loc 3) 0), (5, AVal.slice (prv o) 4 (Tag.own 0)), (6, AVal.bool d), (7, AVal.int IntKind.i64 (↑i : Int)), (8, AVal.int IntKind.i64 y)] [] [(3, AObj.cells [AVal.str key, AVal.int IntKind.i64 k, AVal.int IntKind.i64 n, AVal.str s])] (Sto.pushOwn Sto.empty (List.length (prv o)))))) (cutV (vc Try.prog cPutR code_43_1_1_1_0_1_0_0_1_0_0_1_1 (blockK 1 (thenK (vc Try.prog cPutR code_43_1_1_1_0_1_0_0_1_1 (thenK (fun s => L (St.norm [(5, 4)] [0, 3, 5, 6, 7] [3] s)) K)) (thenK (fun s => L (St.norm [(5, 4)] [0, 3, 5, 6, 7] [3] s)) K)))) (St.mk 49 [(0, AVal.slice (prv l) 4 Tag.ro), (3, AVal.ptr (Oid.loc 3) 0), (5, AVal.slice (prv o) 4 (Tag.own 0)), (6, AVal.bool d), (7, AVal.int IntKind.i64 (↑i : Int)), (8, AVal.int IntKind.i64 y)] [] [(3, AObj.cells [AVal.str key, AVal.int IntKind.i64 k, AVal.int IntKind.i64 n, AVal.str s])] (Sto.pushOwn Sto.empty (List.length (prv o))))))))) (K (Exit.exit 0) (St.mk 49 [(0, AVal.slice (prv l) 4 Tag.ro), (3, AVal.ptr (Oid.loc 3) 0), (5, AVal.slice (prv o) 4 (Tag.own 0)), (6, AVal.bool d), (7, AVal.int IntKind.i64 (↑i : Int)), (12, AVal.bool (hold (decide ((↑i : Int) < (↑(List.length (prv l)) : Int)))))] [] [(3, AObj.cells [AVal.str key, AVal.int IntKind.i64 k, AVal.int IntKind.i64 n, AVal.str s])] (Sto.pushOwn Sto.empty (List.length (prv o)))))) := by kernel_rfl
noncomputable def putRS_S (l o : List Pr) (key : Txt) (k n : Int) (s : Txt) (d : Bool) (i : Nat) (c : Int) : St := St.mk 49 [(0, .slice (prv l) 4 .ro), (3, .ptr (.loc 3) 0), (5, .slice (prv o) 4 (.own 0)), (6, .bool d), (7, .int .i64 (i : Int)), (8, .int .i64 c)] [] [(3, .cells [.str key, .int .i64 k, .int .i64 n, .str s])] (Sto.pushOwn Sto.empty (prv o).length)
noncomputable abbrev putRS_C : Code := code_43_1_1_1_0_1_0_0_1_0_0_1_1
theorem putRS_r (l o : List Pr) (key : Txt) (k n : Int) (s : Txt) (d : Bool) (i : Nat) (c : Int) (K : Exit → St → Prop) : vc Try.prog cPutR code_43_1_1_1_0_1_0_0_1_0_0_1_1 K (St.mk 49 [(0, .slice (prv l) 4 .ro), (3, .ptr (.loc 3) 0), (5, .slice (prv o) 4 (.own 0)), (6, .bool d), (7, .int .i64 (i : Int)), (8, .int .i64 c)] [] [(3, .cells [.str key, .int .i64 k, .int .i64 n, .str s])] (Sto.pushOwn Sto.empty (prv o).length)) =
  (brV (hold (c != (0 : Int))) true (gb (decide ((0 : Int) ≤ (↑i : Int) ∧ (↑i : Int) < (↑(List.length (prv l)) : Int))) (gb (decide (4 ≤ List.length (elemAt (prv l) (↑i : Int)) ∧ 0 < 4) && (etaOk Sh.str (List.getD (elemAt (prv l) (↑i : Int)) 0 AVal.undef) && (etaOk (Sh.int IntKind.i64) (List.getD (elemAt (prv l) (↑i : Int)) 1 AVal.undef) && (etaOk (Sh.int IntKind.i64) (List.getD (elemAt (prv l) (↑i : Int)) 2 AVal.undef) && (etaOk Sh.str (List.getD (elemAt (prv l) (↑i : Int)) 3 AVal.undef) && true))))) (gb (decide (decide (true = true ∧ some (List.length (prv o)) = some (List.length (prv o)) ∧ (List.length (prv o) + 1) * 48 ≤ 140737488355328 ∧ List.length (prv o) + 1 ≤ 9223372036854775807) = true ∧ true = true)) (K Exit.normal (St.mk 49 [(0, AVal.slice (prv l) 4 Tag.ro), (3, AVal.ptr (Oid.loc 3) 0), (5, AVal.slice (prv o ++ [AVal.agg [AVal.str (AVal.strOf (List.getD (elemAt (prv l) (↑i : Int)) 0 AVal.undef)), AVal.int IntKind.i64 (AVal.intOf (List.getD (elemAt (prv l) (↑i : Int)) 1 AVal.undef)), AVal.int IntKind.i64 (AVal.intOf (List.getD (elemAt (prv l) (↑i : Int)) 2 AVal.undef)), AVal.str (AVal.strOf (List.getD (elemAt (prv l) (↑i : Int)) 3 AVal.undef))]]) 4 (Tag.own 0)), (6, AVal.bool d), (7, AVal.int IntKind.i64 (↑i : Int)), (8, AVal.int IntKind.i64 c), (34, AVal.bool (hold (c != (0 : Int))))] [] [(3, AObj.cells [AVal.str key, AVal.int IntKind.i64 k, AVal.int IntKind.i64 n, AVal.str s])] (Sto.setOwn (Sto.pushOwn Sto.empty (List.length (prv o))) 0 (List.length (prv o) + 1))))))) (K Exit.normal (St.mk 49 [(0, AVal.slice (prv l) 4 Tag.ro), (3, AVal.ptr (Oid.loc 3) 0), (5, AVal.slice (prv o) 4 (Tag.own 0)), (6, AVal.bool d), (7, AVal.int IntKind.i64 (↑i : Int)), (8, AVal.int IntKind.i64 c), (34, AVal.bool (hold (c != (0 : Int))))] [] [(3, AObj.cells [AVal.str key, AVal.int IntKind.i64 k, AVal.int IntKind.i64 n, AVal.str s])] (Sto.pushOwn Sto.empty (List.length (prv o)))))) := by kernel_rfl
noncomputable def putRF_S (o : List Pr) (key : Txt) (k n : Int) (s : Txt) (d : Bool) : St := St.mk 49 [(3, .ptr (.loc 3) 0), (5, .slice (prv o) 4 (.own 0)), (6, .bool d)] [] [(3, .cells [.str key, .int .i64 k, .int .i64 n, .str s])] (Sto.pushOwn Sto.empty (prv o).length)
noncomputable abbrev putRF_C : Code := code_43_1_1_1_1
theorem putRF_r (o : List Pr) (key : Txt) (k n : Int) (s : Txt) (d : Bool) (Q : AVal → Sto → Prop) : vc Try.prog cPutR code_43_1_1_1_1 (endK Try.prog Try.f43.results.toList Q) (St.mk 49 [(3, .ptr (.loc 3) 0), (5, .slice (prv o) 4 (.own 0)), (6, .bool d)] [] [(3, .cells [.str key, .int .i64 k, .int .i64 n, .str s])] (Sto.pushOwn Sto.empty (prv o).length)) =
  (brV (!d) true (gb (decide (decide (true = true ∧ some (List.length (prv o)) = some (List.length (prv o)) ∧ (List.length (prv o) + 1) * 48 ≤ 140737488355328 ∧ List.length (prv o) + 1 ≤ 9223372036854775807) = true ∧ true = true)) (Q (AVal.slice (prv o ++ [AVal.agg [AVal.str key, AVal.int IntKind.i64 k, AVal.int IntKind.i64 n, AVal.str s]]) 4 (Tag.own 0)) (Sto.setOwn (Sto.pushOwn Sto.empty (List.length (prv o))) 0 (List.length (prv o) + 1)))) (Q (AVal.slice (prv o) 4 (Tag.own 0)) (Sto.pushOwn Sto.empty (List.length (prv o))))) := by kernel_rfl
theorem bytesR_r (l : List Pr) (Q : AVal → Sto → Prop) : vc Try.prog cBytesR code_24_ (endK Try.prog Try.f24.results.toList Q) (St.start Try.f24.ntmps [.slice (prv l) 4 .ro] (Sto.empty)) =
  (loopV (fun s => St.norm [(3, 1)] [0, 3, 4] [] s) (vc Try.prog cBytesR code_24_1_1_0_1_0_0) (blockK 0 (thenK (vc Try.prog cBytesR code_24_1_1_1 (endK Try.prog (Array.toList (Go.Func.results Try.f24)) Q)) (endK Try.prog (Array.toList (Go.Func.results Try.f24)) Q))) (St.mk 41 [(0, AVal.slice (prv l) 4 Tag.ro), (3, AVal.slice [AVal.int IntKind.u8 (IntKind.wrap IntKind.u8 (↑(List.length (prv l)) : Int))] 1 (Tag.own 0)), (4, AVal.int IntKind.i64 (0 : Int))] [] [] (Sto.pushOwn Sto.empty 1))) := by kernel_rfl
theorem bytesR_i (l : List Pr) (Q : AVal → Sto → Prop) (ho : OrcOk Try.prog cBytesR) (h : loopV (fun s => St.norm [(3, 1)] [0, 3, 4] [] s) (vc Try.prog cBytesR code_24_1_1_0_1_0_0) (blockK 0 (thenK (vc Try.prog cBytesR code_24_1_1_1 (endK Try.prog (Array.toList (Go.Func.results Try.f24)) Q)) (endK Try.prog (Array.toList (Go.Func.results Try.f24)) Q))) (St.mk 41 [(0, AVal.slice (prv l) 4 Tag.ro), (3, AVal.slice [AVal.int IntKind.u8 (IntKind.wrap IntKind.u8 (↑(List.length (prv l)) : Int))] 1 (Tag.own 0)), (4, AVal.int IntKind.i64 (0 : Int))] [] [] (Sto.pushOwn Sto.empty 1))) : ACall Try.prog 24 [.slice (prv l) 4 .ro] (Sto.empty) Q :=
  ACall.intro hmix Try.func24 (c := code_24_) (by kernel_rfl) cBytesR ho (Nat.le_of_ble_eq_true (by kernel_rfl)) (by rw [bytesR_r]; exact h)
noncomputable def bytesRL_S (l : List Pr) (o : Txt) (i : Nat) : St := St.mk 41 [(0, .slice (prv l) 4 .ro), (3, .slice (bw o) 1 (.own 0)), (4, .int .i64 (i : Int))] [] [] (Sto.pushOwn Sto.empty (bw o).length)
noncomputable abbrev bytesRL_C : Code := code_24_1_1_0_1_0_0
theorem bytesRL_r (l : List Pr) (o : Txt) (i : Nat) (L : St → Prop) (K : Exit → St → Prop) : vc Try.prog cBytesR code_24_1_1_0_1_0_0 (thenK (fun s => L (St.norm [(3, 1)] [0, 3, 4] [] s)) K) (St.mk 41 [(0, .slice (prv l) 4 .ro), (3, .slice (bw o) 1 (.own 0)), (4, .int .i64 (i : Int))] [] [] (Sto.pushOwn Sto.empty (bw o).length)) =
  (brV (hold (decide ((↑i : Int) < (↑(List.length (prv l)) : Int)))) true (gb (decide ((0 : Int) ≤ (↑i : Int) ∧ (↑i : Int) < (↑(List.length (prv l)) : Int))) (gb (decide (1 ≤ List.length (List.drop 0 (elemAt (prv l) (↑i : Int))) ∧ 0 < 1) && etaOk Sh.str (List.getD (List.drop 0 (elemAt (prv l) (↑i : Int))) 0 AVal.undef)) (gb (decide (decide (true = true ∧ some (List.length (bw o)) = some (List.length (bw o)) ∧ (List.length (bw o) + 1) * 1 ≤ 140737488355328 ∧ List.length (bw o) + 1 ≤ 9223372036854775807) = true ∧ true = true)) (gb (decide ((0 : Int) ≤ (↑i : Int) ∧ (↑i : Int) < (↑(List.length (prv l)) : Int))) (gb (decide (1 ≤ List.length (List.drop 0 (elemAt (prv l) (↑i : Int))) ∧ 0 < 1) && etaOk Sh.str (List.getD (List.drop 0 (elemAt (prv l) (↑i : Int))) 0 AVal.undef)) (gb (decide (decide (true = true ∧ some (List.length (bw o) + 1) = some (List.length (bw o ++ [AVal.int IntKind.u8 (IntKind.wrap IntKind.u8 (↑(List.length (AVal.strOf (List.getD (List.drop 0 (elemAt (prv l) (↑i : Int))) 0 AVal.undef))) : Int))])) ∧ (List.length (bw o ++ [AVal.int IntKind.u8 (IntKind.wrap IntKind.u8 (↑(List.length (AVal.strOf (List.getD (List.drop 0 (elemAt (prv l) (↑i : Int))) 0 AVal.undef))) : Int))]) + List.length (List.map ofByte (AVal.strOf (List.getD (List.drop 0 (elemAt (prv l) (↑i : Int))) 0 AVal.undef)))) * 1 ≤ 140737488355328 ∧ List.length (bw o ++ [AVal.int IntKind.u8 (IntKind.wrap IntKind.u8 (↑(List.length (AVal.strOf (List.getD (List.drop 0 (elemAt (prv l) (↑i : Int))) 0 AVal.undef))) : Int))]) + List.length (List.map ofByte (AVal.strOf (List.getD (List.drop 0 (elemAt (prv l) (↑i : Int))) 0 AVal.undef))) ≤ 9223372036854775807) = true ∧ true = true)) (gb (decide ((0 : Int) ≤ (↑i : Int) ∧ (↑i : Int) < (↑(List.length (prv l)) : Int))) (gb (decide (3 ≤ List.length (List.drop 1 (elemAt (prv l) (↑i : Int))) ∧ 0 < 3) && (etaOk (Sh.int IntKind.i64) (List.getD (List.drop 1 (elemAt (prv l) (↑i : Int))) 0 AVal.undef) && (etaOk (Sh.int IntKind.i64) (List.getD (List.drop 1 (elemAt (prv l) (↑i : Int))) 1 AVal.undef) && (etaOk Sh.str (List.getD (List.drop 1 (elemAt (prv l) (↑i : Int))) 2 AVal.undef) && true)))) (∀ (y : Txt), y = bytesV (Vl.mk (AVal.intOf (List.getD (List.drop 1 (elemAt (prv l) (↑i : Int))) 0 AVal.undef)) (AVal.intOf (List.getD (List.drop 1 (elemAt (prv l) (↑i : Int))) 1 AVal.undef)) (AVal.strOf (List.getD (List.drop 1 (elemAt (prv l) (↑i : Int))) 2 AVal.undef))) → gb (V.i64r (AVal.intOf (List.getD (List.drop 1 (elemAt (prv l) (↑i : Int))) 1 AVal.undef)) && V.lenT (AVal.strOf (List.getD (List.drop 1 (elemAt (prv l) (↑i : Int))) 2 AVal.undef))) (gb (decide (decide (true = true ∧ some (List.length (bw o ++ [AVal.int IntKind.u8 (IntKind.wrap IntKind.u8 (↑(List.length (AVal.strOf (List.getD (List.drop 0 (elemAt (prv l) (↑i : Int))) 0 AVal.undef))) : Int))]) + List.length (List.map ofByte (AVal.strOf (List.getD (List.drop 0 (elemAt (prv l) (↑i : Int))) 0 AVal.undef)))) = some (List.length (bw o ++ [AVal.int IntKind.u8 (IntKind.wrap IntKind.u8 (↑(List.length (AVal.strOf (List.getD (List.drop 0 (elemAt (prv l) (↑i : Int))) 0 AVal.undef))) : Int))] ++ List.map ofByte (AVal.strOf (List.getD (List.drop 0 (elemAt (prv l) (↑i : Int))) 0 AVal.undef)))) ∧ (List.length (bw o ++ [AVal.int IntKind.u8 (IntKind.wrap IntKind.u8 (↑(List.length (AVal.strOf (List.getD (List.drop 0 (elemAt (prv l) (↑i : Int))) 0 AVal.undef))) : Int))] ++ List.map ofByte (AVal.strOf (List.getD (List.drop 0 (elemAt (prv l) (↑i : Int))) 0 AVal.undef))) + List.length (bw y)) * 1 ≤ 140737488355328 ∧ List.length (bw o ++ [AVal.int IntKind.u8 (IntKind.wrap IntKind.u8 (↑(List.length (AVal.strOf (List.getD (List.drop 0 (elemAt (prv l) (↑i : Int))) 0 AVal.undef))) : Int))] ++ List.map ofByte (AVal.strOf (List.getD (List.drop 0 (elemAt (prv l) (↑i : Int))) 0 AVal.undef))) + List.length (bw y) ≤ 9223372036854775807) = true ∧ true = true)) (L (St.mk 41 [(0, AVal.slice (prv l) 4 Tag.ro), (3, AVal.slice (bw o ++ [AVal.int IntKind.u8 (IntKind.wrap IntKind.u8 (↑(List.length (AVal.strOf (List.getD (List.drop 0 (elemAt (prv l) (↑i : Int))) 0 AVal.undef))) : Int))] ++ List.map ofByte (AVal.strOf (List.getD (List.drop 0 (elemAt (prv l) (↑i : Int))) 0 AVal.undef)) ++ bw y) 1 (Tag.own 0)), (4, AVal.int IntKind.i64 (IntKind.wrap IntKind.i64 ((↑i : Int) + (1 : Int))))] [] [] (Sto.setOwn (Sto.setOwn (Sto.setOwn (Sto.pushOwn Sto.empty (List.length (bw o))) 0 (List.length (bw o) + 1)) 0 (List.length (bw o ++ [AVal.int IntKind.u8 (IntKind.wrap IntKind.u8 (↑(List.length (AVal.strOf (List.getD (List.drop 0 (elemAt (prv l) (↑i : Int))) 0 AVal.undef))) : Int))]) + List.length (List.map ofByte (AVal.strOf (List.getD (List.drop 0 (elemAt (prv l) (↑i : Int))) 0 AVal.undef))))) 0 (List.length (bw o ++ [AVal.int IntKind.u8 (IntKind.wrap IntKind.u8 (↑(List.length (AVal.strOf (List.getD (List.drop 0 (elemAt (prv l) (↑i : Int))) 0 AVal.undef))) : Int))] ++ List.map ofByte (AVal.strOf (List.getD (List.drop 0 (elemAt (prv l) (↑i : Int))) 0 AVal.undef))) + List.length (bw y))))))))))))))) (K (Exit.exit 0) (St.mk 41 [(0, AVal.slice (prv l) 4 Tag.ro), (3, AVal.slice (bw o) 1 (Tag.own 0)), (4, AVal.int IntKind.i64 (↑i : Int)), (12, AVal.bool (hold (decide ((↑i : Int) < (↑(List.length (prv l)) : Int)))))] [] [] (Sto.pushOwn Sto.empty (List.length (bw o)))))) := by kernel_rfl
end Go.Proofs.Ytbghpjamahgegaa
end

section
namespace Go.AL
set_option linter.unusedSimpArgs false
set_option linter.unusedVariables false
theorem incP_iff : ∀ l : List Pr, incP l = true ↔ ∀ i (h : i < l.length), okP l[i] = true ∧ (0 < i → cmpK l[i - 1].key l[i].key < 0)
  | [] => by simp [incP]
  | [p] => by
    constructor
    · intro h i hi
      have : i = 0 := by simpa using hi
      subst this
      exact ⟨h, fun h => by omega⟩
    · intro h
      exact (h 0 (by simp)).1
  | p :: q :: r => by
    have ih := incP_iff (q :: r)
    simp only [incP, Bool.and_eq_true, decide_eq_true_eq]
    constructor
    · rintro ⟨h1, h2, h3⟩ i hi
      match i, hi with
      | 0, _ => exact ⟨h1, fun h => by omega⟩
      | 1, _ => exact ⟨(ih.1 h3 0 (by simp)).1, fun _ => h2⟩
      | i + 2, hi =>
        have := ih.1 h3 (i + 1) (by simpa using hi)
        exact ⟨this.1, fun _ => this.2 (by omega)⟩
    · intro h
      refine ⟨(h 0 (by simp)).1, (h 1 (by simp)).2 (by omega), ih.2 fun i hi => ?_⟩
      have := h (i + 1) (by simpa using hi)
      refine ⟨this.1, fun h0 => ?_⟩
      have h2 := this.2 (by omega)
      obtain ⟨j, rfl⟩ : ∃ j, i = j + 1 := ⟨i - 1, by omega⟩
      exact h2
theorem getP_any (l : List Pr) (key : Txt) : (l.any fun p => p.key == key) = (getP l key).isSome := by
  unfold getP
  rw [Bool.eq_iff_iff, List.find?_isSome, List.any_eq_true]
theorem getP_at {l : List Pr} {key : Txt} {p : Pr} (h : getP l key = some p) : ∃ h : l.findIdx (fun p => p.key == key) < l.length, l[l.findIdx (fun p => p.key == key)] = p := by
  unfold getP at h
  have h1 : l.findIdx (fun p => p.key == key) < l.length := List.findIdx_lt_length_of_exists ⟨p, List.mem_of_find?_eq_some h, List.find?_some (p := fun q : Pr => q.key == key) h⟩
  refine ⟨h1, ?_⟩
  have := List.find?_eq_some_iff_getElem.1 h
  obtain ⟨h2, i, hi, h3, h4⟩ := this
  have : l.findIdx (fun p => p.key == key) = i := by
    rw [List.findIdx_eq hi]
    exact ⟨by rw [h3]; exact h2, fun j hj => by simpa using h4 j hj⟩
  simp only [this, h3]
end Go.AL
namespace Go.Proofs.Ytbghpjamahgegaa
open Go.AL
set_option linter.unusedSimpArgs false
set_option linter.unusedVariables false
set_option maxHeartbeats 2000000
set_option maxRecDepth 20000
theorem and_tt {a b : Bool} (h1 : a = true) (h2 : b = true) : (a && b) = true := by rw [h1, h2]; rfl
theorem prsOk_of {es : List AVal} {s : Nat} (h : prsOk es s = true) : okW 4 s es = true ∧ es.all isPr = true ∧ (es.map prOf).length ≤ 1000000 ∧ ∀ p ∈ es.map prOf, p.fit := by
  unfold prsOk at h
  simp only [Bool.and_eq_true, hold_eq] at h
  exact ⟨h.1, h.2.1, fitPs_of h.2.2⟩
theorem prsOk_mk {l : List Pr} (h1 : l.length ≤ 1000000) (h2 : ∀ p ∈ l, p.fit) : prsOk (prv l) 4 = true :=
  and_tt (okW_same _ _) (and_tt (prv_is _) (by rw [hold_eq, map_prOf_prv]; exact fitPs_mk ⟨h1, h2⟩))
theorem by_c (key b s : Txt) (k n : Int) (h1 : key.length ≤ 1000000) (h2 : b.length ≤ 1000000) : ACall Try.prog 36 [.agg [.str key, .int .i64 k, .int .i64 n, .str s], .str b] Sto.empty fun r _ => Wk r (.int .i64 (cmpK key b)) := by
  refine by__i key b k n s _ (.of [Lt.compareE] rfl ⟨Lt.compare_ok, trivial⟩) ?_
  intro y hy
  refine gb_by (and_tt (Lt.lenT_mk h1) (Lt.lenT_mk h2)) ?_
  rw [hy]; exact Wk.refl _
theorem by_ok : EntOk Try.prog byE := by
  intro xs σ; simp only [byE]; split
  · rename_i key k n s b
    intro hc
    rw [Bool.and_eq_true] at hc
    exact pcall_of (v := .int .i64 _) (.refl _) (by_c key b s k n (Lt.lenT_of hc.1) (Lt.lenT_of hc.2)) rfl rfl rfl rfl
  · trivial
theorem pr_eta (p : Pr) : (⟨AVal.strOf (List.getD [AVal.str p.key, AVal.int .i64 p.v.k, AVal.int .i64 p.v.n, AVal.str p.v.s] 0 .undef), ⟨AVal.intOf (List.getD [AVal.str p.key, AVal.int .i64 p.v.k, AVal.int .i64 p.v.n, AVal.str p.v.s] 1 .undef), AVal.intOf (List.getD [AVal.str p.key, AVal.int .i64 p.v.k, AVal.int .i64 p.v.n, AVal.str p.v.s] 2 .undef), AVal.strOf (List.getD [AVal.str p.key, AVal.int .i64 p.v.k, AVal.int .i64 p.v.n, AVal.str p.v.s] 3 .undef)⟩⟩ : Pr) = p := rfl
theorem strOk1 {s : Txt} (h : s.length ≤ 1000000) : (List.all [AVal.str s] strIs && (Lt.lenOk 1 && List.all [AVal.str s] Lt.strOk)) = true := by
  have h1 : List.all [AVal.str s] Lt.strOk = true := Lt.strs_mk (l := [s]) (by simpa using h)
  rw [h1, Lt.lenOk_mk (show 1 ≤ 140737488351232 by omega)]; rfl
theorem right_c (l : List Pr) (hl : l.length ≤ 1000000) (hp : ∀ p ∈ l, p.fit) : ACall Try.prog 20 [.slice (prv l) 4 .ro] Sto.empty fun r _ => Wk r (.bool (rightP l)) := by
  refine right_i l _ (.of [Lt.rightE, V.rightE, byE] rfl ⟨Lt.right_ok, V.right_ok, by_ok, trivial⟩) ?_
  have hn : (prv l).length = l.length := prv_length l
  have no : ∀ {i : Nat} (h : i < l.length), (okP l[i] = false ∨ ∃ h0 : 0 < i, 0 ≤ cmpK l[i - 1].key l[i].key) → Wk (.bool false) (.bool (rightP l)) := fun {i} h h1 => by
    have : rightP l = false := by
      unfold rightP
      rw [Bool.and_eq_false_iff]; left
      rw [Bool.eq_false_iff]
      intro hc
      have := (incP_iff l).1 hc i h
      rcases h1 with h1 | ⟨h0, h1⟩
      · rw [this.1] at h1; cases h1
      · have := this.2 h0; omega
    rw [this]; exact Wk.refl _
  refine loopV_intro (α := Nat) (fun i => rightL_S l (prv l).length i) (fun i => i ≤ l.length ∧ ∀ j (h : j < l.length), j < i → okP l[j] = true ∧ (0 < j → cmpK l[j - 1].key l[j].key < 0)) (fun i => l.length - i) ?_ 0 ⟨Nat.zero_le _, fun j _ h => by omega⟩
  rintro i ⟨hi, hpre⟩ L hL
  refine Eq.mpr (rightL_r l (prv l).length i L _) ?_
  simp only [hold_eq]
  refine brV_by (fun h => ?_) (fun h => ?_)
  · have hlt : i < l.length := by have := of_decide_eq_true h; omega
    have hfi := hp _ (List.getElem_mem hlt)
    rw [i64_succ hlt (by omega), elemAt_prv l i hlt]
    refine gb_by (dt (by omega)) (gb_by rfl (gb_by (strOk1 hfi.1) ?_))
    refine brV_by' (fun h => ?_) (fun h => ?_)
    rotate_left
    · have hb : nameT l[i].key = false := by
        have h : (!((nameT l[i].key) && true)) = true := h
        simpa using h
      refine no hlt (.inl ?_)
      unfold okP; rw [hb]; rfl
    have hk1 : nameT l[i].key = true := by
      have h : (!((nameT l[i].key) && true)) = false := h
      simpa using h
    refine gb_by (V.vlsOk_mk (l := [l[i].v]) (by simp)) ?_
    refine brV_by' (fun h => ?_) (fun h => ?_)
    rotate_left
    · have hb : okV l[i].v = false := by
        have h : (!((okV l[i].v) && true)) = true := h
        simpa using h
      refine no hlt (.inl ?_)
      unfold okP; rw [hb, Bool.and_false]
    have hk2 : okV l[i].v = true := by
      have h : (!((okV l[i].v) && true)) = false := h
      simpa using h
    have hok : okP l[i] = true := and_tt hk1 hk2
    have nxt : (0 < i → cmpK l[i - 1].key l[i].key < 0) → L (rightL_S l (prv l).length (i + 1)) := fun hc => hL (i + 1) ⟨hlt, fun j hj hji => by
      rcases Nat.lt_or_ge j i with h9 | h9
      · exact hpre j hj h9
      · obtain rfl : j = i := by omega
        exact ⟨hok, hc⟩⟩ (by omega)
    refine brV_by (fun h => ?_) (fun h => nxt fun h0 => by have := of_decide_eq_false h; omega)
    have h0 : 0 < i := by have := of_decide_eq_true h; omega
    have e1 : IntKind.i64.wrap ((i : Int) - 1) = ((i - 1 : Nat) : Int) := by rw [wrap_i64 (by omega) (by omega)]; omega
    rw [e1, elemAt_prv l (i - 1) (by omega)]
    refine gb_by (dt (by omega)) (gb_by rfl ?_)
    intro y hy
    have hy : y = cmpK l[i - 1].key l[i].key := hy
    refine gb_by (and_tt (Lt.lenT_mk (hp _ (List.getElem_mem (by omega))).1) (Lt.lenT_mk hfi.1)) ?_
    refine brV_by (fun h => ?_) (fun h => nxt fun _ => by have := of_decide_eq_false h; omega)
    have h := of_decide_eq_true h
    rw [decide_eq_true h]
    exact no hlt (.inr ⟨h0, by omega⟩)
  · have hge : i = l.length := by have := of_decide_eq_false h; omega
    have hinc : incP l = true := (incP_iff l).2 fun j hj => hpre j hj (by omega)
    have fin : Wk (.bool (hold (decide (((prv l).length : Int) ≤ 16)))) (.bool (rightP l)) := by
      refine wk_eq (congrArg AVal.bool ?_)
      rw [hold_eq, rightP, hinc, Bool.true_and, hn]
      rw [Bool.eq_iff_iff, decide_eq_true_eq, decide_eq_true_eq]
      omega
    exact fin
theorem right_ok : EntOk Try.prog rightE := by
  intro xs σ; simp only [rightE]; split
  · rename_i es s t
    intro hc
    obtain ⟨h1, h2, h3, h4⟩ := prsOk_of hc
    exact pcall_of (.cons (wk_prv t h1 h2) (.refl _)) (by rw [hold_eq]; exact right_c _ h3 h4) (by simp only [noOutL, AVal.noOut, prv_noOut, Bool.and_true]) (by simp only [noTokL, AVal.noTok, prv_noTok, Bool.and_true, Tag.below]) rfl rfl
  · trivial
end Go.Proofs.Ytbghpjamahgegaa
end

section
namespace Go.AL
set_option linter.unusedSimpArgs false
set_option linter.unusedVariables false
theorem prEq (p q : Pr) : (p.key == q.key && (p.v.k == q.v.k && (p.v.n == q.v.n && (p.v.s == q.v.s && true)))) = decide (p = q) := by
  rw [Bool.eq_iff_iff, decide_eq_true_eq]
  obtain ⟨k, ⟨a, b, c⟩⟩ := p
  obtain ⟨k', ⟨a', b', c'⟩⟩ := q
  simp
theorem any_false_lt {l : List Pr} {key : Txt} (h : ∀ j (hj : j < l.length), ¬ l[j].key = key) : (l.any fun p => p.key == key) = false := by
  rw [List.any_eq_false]
  intro p hp
  obtain ⟨j, hj, rfl⟩ := List.getElem_of_mem hp
  simpa using h j hj
theorem any_true_at {l : List Pr} {key : Txt} {i : Nat} (hi : i < l.length) (h : l[i].key = key) : (l.any fun p => p.key == key) = true :=
  List.any_eq_true.2 ⟨l[i], List.getElem_mem hi, by simpa using h⟩
theorem findIdx_first {l : List Pr} {key : Txt} {i : Nat} (hi : i < l.length) (h : l[i].key = key) (hpre : ∀ j (hj : j < l.length), j < i → ¬ l[j].key = key) : l.findIdx (fun p => p.key == key) = i := by
  rw [List.findIdx_eq hi]
  exact ⟨by simpa using h, fun j hj => by simpa using hpre j (by omega) hj⟩
end Go.AL
namespace Go.Proofs.Ytbghpjamahgegaa
open Go.AL
set_option linter.unusedSimpArgs false
set_option linter.unusedVariables false
set_option maxHeartbeats 2000000
set_option maxRecDepth 20000
theorem get1_ok : EntOk Try.prog get1E := by
  intro xs σ; simp only [get1E]; split
  · rename_i key k n s b
    intro _
    exact pcall_of (v := .bool _) (.refl _) (get1_i key b k n s _ (.of_none rfl) (Wk.refl _)) rfl rfl rfl rfl
  · trivial
noncomputable def idxK (l : List Pr) (key : Txt) : Int := if (l.any fun p => p.key == key) = true then (l.findIdx (fun p => p.key == key) : Int) else -1
theorem indexF_c (l : List Pr) (key : Txt) (hl : l.length ≤ 1000000) : ACall Try.prog 41 [.slice (prv l) 4 .ro, .func (.func 42) [] [.iptr [.str key]]] Sto.empty fun r _ => Wk r (.int .i64 (idxK l key)) := by
  refine indexF_i l key _ (.of [get1E] rfl ⟨get1_ok, trivial⟩) ?_
  have hn : (prv l).length = l.length := prv_length l
  refine loopV_intro (α := Nat) (fun i => indexFL_S l key (prv l).length i) (fun i => i ≤ l.length ∧ ∀ j (h : j < l.length), j < i → ¬ l[j].key = key) (fun i => l.length - i) ?_ 0 ⟨Nat.zero_le _, fun j _ h => by omega⟩
  rintro i ⟨hi, hpre⟩ L hL
  refine Eq.mpr (indexFL_r l key (prv l).length i L _) ?_
  simp only [hold_eq]
  refine brV_by (fun h => ?_) (fun h => ?_)
  · have hlt : i < l.length := by have := of_decide_eq_true h; omega
    rw [i64_succ hlt (by omega), elemAt_prv l i hlt]
    refine gb_by (dt (by omega)) (gb_by rfl (brV_by (fun h => ?_) (fun h => ?_)))
    · have hb : l[i].key = key := by
        have h : (l[i].key == key) = true := h
        simpa using h
      have e : idxK l key = i := by rw [idxK, if_pos (any_true_at hlt hb), findIdx_first hlt hb hpre]
      rw [e]; exact Wk.refl _
    · have hb : ¬ l[i].key = key := by
        have h : (l[i].key == key) = false := h
        simpa using h
      refine hL (i + 1) ⟨hlt, fun j hj hji => ?_⟩ (by omega)
      rcases Nat.lt_or_ge j i with h9 | h9
      · exact hpre j hj h9
      · obtain rfl : j = i := by omega
        exact hb
  · have hge : i = l.length := by have := of_decide_eq_false h; omega
    have e : idxK l key = -1 := by rw [idxK, any_false_lt (fun j hj => hpre j hj (by omega)), if_neg (by simp)]
    rw [e]; exact Wk.refl _
theorem indexF_ok : EntOk Try.prog indexFE := by
  intro xs σ; simp only [indexFE]; split
  · rename_i es s t g key
    intro hc
    rw [Bool.and_eq_true] at hc
    obtain ⟨h0, hc⟩ := hc
    have h0 := Nat.eq_of_beq_eq_true h0
    subst h0
    obtain ⟨h1, h2, h3, _⟩ := prsOk_of hc
    exact pcall_of (v := .int .i64 _) (.cons (wk_prv t h1 h2) (.refl _)) (indexF_c _ key h3) (by simp only [noOutL, AVal.noOut, prv_noOut, Bool.and_true]) (by simp only [noTokL, AVal.noTok, prv_noTok, Bool.and_true, Tag.below]) rfl rfl
  · trivial
theorem get_c (l : List Pr) (key : Txt) (hl : l.length ≤ 1000000) (hp : ∀ p ∈ l, p.fit) : ACall Try.prog 18 [.slice (prv l) 4 .ro, .str key] Sto.empty fun r _ =>
    Wk r (.tuple [.agg [.int .i64 ((getP l key).elim Vl.zero Pr.v).k, .int .i64 ((getP l key).elim Vl.zero Pr.v).n, .str ((getP l key).elim Vl.zero Pr.v).s], .bool (getP l key).isSome]) := by
  refine get_i l key _ (.of [indexFE] rfl ⟨indexF_ok, trivial⟩) ?_
  simp only [map_prOf_prv, hold_eq]
  intro y hy i hi
  refine gb_by (prsOk_mk hl hp) ?_
  rw [getP_any] at hy
  cases hg : getP l key with
  | none =>
    rw [hg] at hy
    have hy : y = false := hy
    subst hy
    have hi : i = -1 := hi
    subst hi
    refine brV_by (fun h => ?_) (fun h => by cases h)
    exact Wk.refl _
  | some p =>
    rw [hg] at hy
    have hy : y = true := hy
    subst hy
    have hi : i = (l.findIdx (fun p => p.key == key) : Int) := hi
    obtain ⟨hlt, hat⟩ := getP_at hg
    generalize l.findIdx (fun p => p.key == key) = m at *
    subst hi
    refine brV_by (fun h => by have := of_decide_eq_true h; omega) (fun h => ?_)
    rw [elemAt_prv l m hlt, hat]
    refine gb_by (dt ⟨by omega, by rw [prv_length]; omega⟩) (gb_by rfl ?_)
    exact Wk.refl _
theorem get_ok : EntOk Try.prog getE := by
  intro xs σ; simp only [getE]; split
  · rename_i es s t key
    intro hc
    obtain ⟨h1, h2, h3, h4⟩ := prsOk_of hc
    exact pcall_of (v := .tuple [.agg [.int .i64 _, .int .i64 _, .str _], .bool _]) (.cons (wk_prv t h1 h2) (.refl _)) (by rw [hold_eq]; exact get_c _ key h3 h4) (by simp only [noOutL, AVal.noOut, prv_noOut, Bool.and_true]) (by simp only [noTokL, AVal.noTok, prv_noTok, Bool.and_true, Tag.below]) rfl rfl
  · trivial
/-! ### The same -/
theorem same_no {a b : List Pr} {i : Nat} (ha : i < a.length) (hb : i < b.length) (h : a[i] ≠ b[i]) : decide (a = b) = false := by
  rw [decide_eq_false_iff_not]
  intro e; subst e; exact h rfl
theorem same_yes {a b : List Pr} (hn : a.length = b.length) (h : ∀ j (ha : j < a.length) (hb : j < b.length), a[j] = b[j]) : decide (a = b) = true := by
  rw [decide_eq_true_eq]
  exact List.ext_getElem hn h
theorem equal_c (a b : List Pr) (ha : a.length ≤ 1000000) (hb : b.length ≤ 1000000) : ACall Try.prog 31 [.slice (prv a) 4 .ro, .slice (prv b) 4 .ro] Sto.empty fun r _ => Wk r (.bool (decide (a = b))) := by
  refine equal_i a b _ (.of_none rfl) ?_
  have h1 := prv_length a
  have h2 := prv_length b
  simp only [hold_eq]
  refine brV_by (fun h => ?_) (fun h => ?_)
  · have hne : a.length ≠ b.length := by
      have h : (((prv a).length : Int) != ((prv b).length : Int)) = true := h
      have : ¬ ((prv a).length : Int) = ((prv b).length : Int) := by simpa using h
      omega
    have : decide (a = b) = false := decide_eq_false fun e => hne (by rw [e])
    rw [this]; exact Wk.refl _
  have hn : a.length = b.length := by
    have h : (((prv a).length : Int) != ((prv b).length : Int)) = false := h
    have : ((prv a).length : Int) = ((prv b).length : Int) := by simpa using h
    omega
  refine loopV_intro (α := Nat) (fun i => equalL_S a b (prv a).length i) (fun i => i ≤ a.length ∧ ∀ j (ha : j < a.length) (hb : j < b.length), j < i → a[j] = b[j]) (fun i => a.length - i) ?_ 0 ⟨Nat.zero_le _, fun j _ _ h => by omega⟩
  rintro i ⟨hi, hpre⟩ L hL
  refine Eq.mpr (equalL_r a b (prv a).length i L _) ?_
  simp only [hold_eq]
  refine brV_by (fun h => ?_) (fun h => ?_)
  · have hlt : i < a.length := by have := of_decide_eq_true h; omega
    have hlb : i < b.length := by omega
    rw [i64_succ hlt (by omega), elemAt_prv a i hlt, elemAt_prv b i hlb]
    refine gb_by (dt (by omega)) (gb_by rfl (gb_by (dt (by omega)) (gb_by rfl ?_)))
    have e : (!(AVal.strOf (List.getD [AVal.str a[i].key, AVal.int .i64 a[i].v.k, AVal.int .i64 a[i].v.n, AVal.str a[i].v.s] 0 .undef) == AVal.strOf (List.getD [AVal.str b[i].key, AVal.int .i64 b[i].v.k, AVal.int .i64 b[i].v.n, AVal.str b[i].v.s] 0 .undef) && (AVal.intOf (List.getD [AVal.str a[i].key, AVal.int .i64 a[i].v.k, AVal.int .i64 a[i].v.n, AVal.str a[i].v.s] 1 .undef) == AVal.intOf (List.getD [AVal.str b[i].key, AVal.int .i64 b[i].v.k, AVal.int .i64 b[i].v.n, AVal.str b[i].v.s] 1 .undef) && (AVal.intOf (List.getD [AVal.str a[i].key, AVal.int .i64 a[i].v.k, AVal.int .i64 a[i].v.n, AVal.str a[i].v.s] 2 .undef) == AVal.intOf (List.getD [AVal.str b[i].key, AVal.int .i64 b[i].v.k, AVal.int .i64 b[i].v.n, AVal.str b[i].v.s] 2 .undef) && (AVal.strOf (List.getD [AVal.str a[i].key, AVal.int .i64 a[i].v.k, AVal.int .i64 a[i].v.n, AVal.str a[i].v.s] 3 .undef) == AVal.strOf (List.getD [AVal.str b[i].key, AVal.int .i64 b[i].v.k, AVal.int .i64 b[i].v.n, AVal.str b[i].v.s] 3 .undef) && true))))) = !decide (a[i] = b[i]) := congrArg (!·) (prEq a[i] b[i])
    rw [e]
    refine brV_by (fun h => ?_) (fun h => ?_)
    · have hne : a[i] ≠ b[i] := by simpa using h
      rw [same_no hlt hlb hne]; exact Wk.refl _
    · have he : a[i] = b[i] := by simpa using h
      refine hL (i + 1) ⟨hlt, fun j hj hj' hji => ?_⟩ (by omega)
      rcases Nat.lt_or_ge j i with h9 | h9
      · exact hpre j hj hj' h9
      · obtain rfl : j = i := by omega
        exact he
  · have hge : i = a.length := by have := of_decide_eq_false h; omega
    rw [same_yes hn (fun j h1 h2 => hpre j h1 h2 (by omega))]
    exact leaveTo (toCut (Eq.mpr (equalF_r _) (Wk.refl _)))
theorem equal_ok : EntOk Try.prog equalE := by
  intro xs σ; simp only [equalE]; split
  · rename_i es s t fs s' t'
    intro hc
    rw [Bool.and_eq_true] at hc
    obtain ⟨h1, h2, h3, h4⟩ := prsOk_of hc.1
    obtain ⟨g1, g2, g3, g4⟩ := prsOk_of hc.2
    exact pcall_of (v := .bool _) (.cons (wk_prv t h1 h2) (.cons (wk_prv t' g1 g2) (.refl _))) (by rw [hold_eq]; exact equal_c _ _ h3 g3) (by simp only [noOutL, AVal.noOut, prv_noOut, Bool.and_true]) (by simp only [noTokL, AVal.noTok, prv_noTok, Bool.and_true, Tag.below]) rfl rfl
  · trivial
theorem same_ok : EntOk Try.prog sameE := by
  intro xs σ; simp only [sameE]; split
  · rename_i es s t fs s' t'
    intro hc
    rw [Bool.and_eq_true] at hc
    obtain ⟨h1, h2, h3, h4⟩ := prsOk_of hc.1
    obtain ⟨g1, g2, g3, g4⟩ := prsOk_of hc.2
    refine pcall_of (v := .bool _) (.cons (wk_prv t h1 h2) (.cons (wk_prv t' g1 g2) (.refl _))) ?_ (by simp only [noOutL, AVal.noOut, prv_noOut, Bool.and_true]) (by simp only [noTokL, AVal.noTok, prv_noTok, Bool.and_true, Tag.below]) rfl rfl
    refine same_i _ _ _ (.of [equalE] rfl ⟨equal_ok, trivial⟩) ?_
    simp only [map_prOf_prv, hold_eq]
    intro y hy
    refine gb_by (and_tt (prsOk_mk h3 h4) (prsOk_mk g3 g4)) ?_
    rw [hy]; exact Wk.refl _
  · trivial
theorem sameR_c (a b : List Pr) (ha : a.length ≤ 1000000) (hb : b.length ≤ 1000000) : ACall Try.prog 12 [.slice (prv a) 4 .ro, .slice (prv b) 4 .ro] Sto.empty fun r _ => Wk r (.bool (decide (a = b))) := by
  refine sameR_i a b _ (.of_none rfl) ?_
  have h1 := prv_length a
  have h2 := prv_length b
  simp only [hold_eq]
  refine brV_by (fun h => ?_) (fun h => ?_)
  · have hne : a.length ≠ b.length := by
      have h : (((prv a).length : Int) != ((prv b).length : Int)) = true := h
      have : ¬ ((prv a).length : Int) = ((prv b).length : Int) := by simpa using h
      omega
    have : decide (a = b) = false := decide_eq_false fun e => hne (by rw [e])
    rw [this]; exact Wk.refl _
  have hn : a.length = b.length := by
    have h : (((prv a).length : Int) != ((prv b).length : Int)) = false := h
    have : ((prv a).length : Int) = ((prv b).length : Int) := by simpa using h
    omega
  refine loopV_intro (α := Nat) (fun i => sameRL_S a b i) (fun i => i ≤ a.length ∧ ∀ j (ha : j < a.length) (hb : j < b.length), j < i → a[j] = b[j]) (fun i => a.length - i) ?_ 0 ⟨Nat.zero_le _, fun j _ _ h => by omega⟩
  rintro i ⟨hi, hpre⟩ L hL
  refine Eq.mpr (sameRL_r a b i L _) ?_
  simp only [hold_eq]
  refine brV_by (fun h => ?_) (fun h => ?_)
  · have hlt : i < a.length := by have := of_decide_eq_true h; omega
    have hlb : i < b.length := by omega
    rw [i64_succ hlt (by omega), elemAt_prv a i hlt, elemAt_prv b i hlb]
    refine gb_by (dt (by omega)) (gb_by rfl (gb_by (dt (by omega)) (gb_by rfl ?_)))
    have e : (!(AVal.strOf (List.getD [AVal.str a[i].key, AVal.int .i64 a[i].v.k, AVal.int .i64 a[i].v.n, AVal.str a[i].v.s] 0 .undef) == AVal.strOf (List.getD [AVal.str b[i].key, AVal.int .i64 b[i].v.k, AVal.int .i64 b[i].v.n, AVal.str b[i].v.s] 0 .undef) && (AVal.intOf (List.getD [AVal.str a[i].key, AVal.int .i64 a[i].v.k, AVal.int .i64 a[i].v.n, AVal.str a[i].v.s] 1 .undef) == AVal.intOf (List.getD [AVal.str b[i].key, AVal.int .i64 b[i].v.k, AVal.int .i64 b[i].v.n, AVal.str b[i].v.s] 1 .undef) && (AVal.intOf (List.getD [AVal.str a[i].key, AVal.int .i64 a[i].v.k, AVal.int .i64 a[i].v.n, AVal.str a[i].v.s] 2 .undef) == AVal.intOf (List.getD [AVal.str b[i].key, AVal.int .i64 b[i].v.k, AVal.int .i64 b[i].v.n, AVal.str b[i].v.s] 2 .undef) && (AVal.strOf (List.getD [AVal.str a[i].key, AVal.int .i64 a[i].v.k, AVal.int .i64 a[i].v.n, AVal.str a[i].v.s] 3 .undef) == AVal.strOf (List.getD [AVal.str b[i].key, AVal.int .i64 b[i].v.k, AVal.int .i64 b[i].v.n, AVal.str b[i].v.s] 3 .undef) && true))))) = !decide (a[i] = b[i]) := congrArg (!·) (prEq a[i] b[i])
    rw [e]
    refine brV_by (fun h => ?_) (fun h => ?_)
    · have hne : a[i] ≠ b[i] := by simpa using h
      rw [same_no hlt hlb hne]; exact Wk.refl _
    · have he : a[i] = b[i] := by simpa using h
      refine hL (i + 1) ⟨hlt, fun j hj hj' hji => ?_⟩ (by omega)
      rcases Nat.lt_or_ge j i with h9 | h9
      · exact hpre j hj hj' h9
      · obtain rfl : j = i := by omega
        exact he
  · have hge : i = a.length := by have := of_decide_eq_false h; omega
    rw [same_yes hn (fun j h1 h2 => hpre j h1 h2 (by omega))]
    exact Wk.refl _
theorem sameR_ok : EntOk Try.prog sameRE := by
  intro xs σ; simp only [sameRE]; split
  · rename_i es s t fs s' t'
    intro hc
    rw [Bool.and_eq_true] at hc
    obtain ⟨h1, h2, h3, h4⟩ := prsOk_of hc.1
    obtain ⟨g1, g2, g3, g4⟩ := prsOk_of hc.2
    exact pcall_of (v := .bool _) (.cons (wk_prv t h1 h2) (.cons (wk_prv t' g1 g2) (.refl _))) (by rw [hold_eq]; exact sameR_c _ _ h3 g3) (by simp only [noOutL, AVal.noOut, prv_noOut, Bool.and_true]) (by simp only [noTokL, AVal.noTok, prv_noTok, Bool.and_true, Tag.below]) rfl rfl
  · trivial
/-! ### The references -/
theorem findR_c (l : List Pr) (key : Txt) (hl : l.length ≤ 1000000) : ACall Try.prog 16 [.slice (prv l) 4 .ro, .str key] Sto.empty fun r _ => Wk r (.int .i64 (idxK l key)) := by
  refine findR_i l key _ (.of_none rfl) ?_
  have hn : (prv l).length = l.length := prv_length l
  refine loopV_intro (α := Nat) (fun i => findRL_S l key i) (fun i => i ≤ l.length ∧ ∀ j (h : j < l.length), j < i → ¬ l[j].key = key) (fun i => l.length - i) ?_ 0 ⟨Nat.zero_le _, fun j _ h => by omega⟩
  rintro i ⟨hi, hpre⟩ L hL
  refine Eq.mpr (findRL_r l key i L _) ?_
  simp only [hold_eq]
  refine brV_by (fun h => ?_) (fun h => ?_)
  · have hlt : i < l.length := by have := of_decide_eq_true h; omega
    rw [i64_succ hlt (by omega), elemAt_prv l i hlt]
    refine gb_by (dt (by omega)) (gb_by rfl (brV_by (fun h => ?_) (fun h => ?_)))
    · have hb : l[i].key = key := by
        have h : (l[i].key == key) = true := h
        simpa using h
      have e : idxK l key = i := by rw [idxK, if_pos (any_true_at hlt hb), findIdx_first hlt hb hpre]
      rw [e]; exact Wk.refl _
    · have hb : ¬ l[i].key = key := by
        have h : (l[i].key == key) = false := h
        simpa using h
      refine hL (i + 1) ⟨hlt, fun j hj hji => ?_⟩ (by omega)
      rcases Nat.lt_or_ge j i with h9 | h9
      · exact hpre j hj h9
      · obtain rfl : j = i := by omega
        exact hb
  · have hge : i = l.length := by have := of_decide_eq_false h; omega
    have e : idxK l key = -1 := by rw [idxK, any_false_lt (fun j hj => hpre j hj (by omega)), if_neg (by simp)]
    rw [e]; exact Wk.refl _
theorem findR_ok : EntOk Try.prog findRE := by
  intro xs σ; simp only [findRE]; split
  · rename_i es s t key
    intro hc
    obtain ⟨h1, h2, h3, _⟩ := prsOk_of hc
    exact pcall_of (v := .int .i64 _) (.cons (wk_prv t h1 h2) (.refl _)) (findR_c _ key h3) (by simp only [noOutL, AVal.noOut, prv_noOut, Bool.and_true]) (by simp only [noTokL, AVal.noTok, prv_noTok, Bool.and_true, Tag.below]) rfl rfl
  · trivial
theorem rightR_c (l : List Pr) (hl : l.length ≤ 1000000) (hp : ∀ p ∈ l, p.fit) : ACall Try.prog 10 [.slice (prv l) 4 .ro] Sto.empty fun r _ => Wk r (.bool (rightP l)) := by
  refine rightR_i l _ (.of [Lt.rightRE, V.rightRE, Lt.compareRE] rfl ⟨Lt.rightR_ok, V.rightR_ok, Lt.compareR_ok, trivial⟩) ?_
  have hn : (prv l).length = l.length := prv_length l
  simp only [hold_eq]
  refine brV_by (fun h => ?_) (fun h => ?_)
  · have h := of_decide_eq_true h
    have : rightP l = false := by
      unfold rightP
      rw [decide_eq_false (show ¬ l.length ≤ 16 by omega), Bool.and_false]
    rw [this]; exact Wk.refl _
  have h16 : l.length ≤ 16 := by have := of_decide_eq_false h; omega
  have no : ∀ {i : Nat} (h : i < l.length), (okP l[i] = false ∨ ∃ h0 : 0 < i, 0 ≤ cmpK l[i - 1].key l[i].key) → Wk (.bool false) (.bool (rightP l)) := fun {i} h h1 => by
    have : rightP l = false := by
      unfold rightP
      rw [Bool.and_eq_false_iff]; left
      rw [Bool.eq_false_iff]
      intro hc
      have := (incP_iff l).1 hc i h
      rcases h1 with h1 | ⟨h0, h1⟩
      · rw [this.1] at h1; cases h1
      · have := this.2 h0; omega
    rw [this]; exact Wk.refl _
  refine loopV_intro (α := Nat) (fun i => rightRL_S l i) (fun i => i ≤ l.length ∧ ∀ j (h : j < l.length), j < i → okP l[j] = true ∧ (0 < j → cmpK l[j - 1].key l[j].key < 0)) (fun i => l.length - i) ?_ 0 ⟨Nat.zero_le _, fun j _ h => by omega⟩
  rintro i ⟨hi, hpre⟩ L hL
  refine Eq.mpr (rightRL_r l i L _) ?_
  simp only [hold_eq]
  refine brV_by (fun h => ?_) (fun h => ?_)
  · have hlt : i < l.length := by have := of_decide_eq_true h; omega
    have hfi := hp _ (List.getElem_mem hlt)
    rw [elemAt_prv l i hlt]
    refine gb_by (dt (by omega)) (gb_by rfl (gb_by (Lt.lenT_mk hfi.1) ?_))
    refine brV_by' (fun h => ?_) (fun h => ?_)
    rotate_left
    · have hb : nameT l[i].key = false := by
        have h : (!nameT l[i].key) = true := h
        simpa using h
      refine no hlt (.inl ?_)
      unfold okP; rw [hb]; rfl
    have hk1 : nameT l[i].key = true := by
      have h : (!nameT l[i].key) = false := h
      simpa using h
    refine gb_by (dt (by omega)) (gb_by rfl ?_)
    refine brV_by (fun h => ?_) (fun h => ?_)
    · have h : (!okV l[i].v) = true := h
      have hb : okV l[i].v = false := by simpa using h
      refine no hlt (.inl ?_)
      unfold okP; rw [hb, Bool.and_false]
    have hk2 : okV l[i].v = true := by
      have h : (!okV l[i].v) = false := h
      simpa using h
    have hok : okP l[i] = true := and_tt hk1 hk2
    refine toCut (Eq.mpr (rightRS_r l i _) ?_)
    simp only [hold_eq]
    have nxt : (0 < i → cmpK l[i - 1].key l[i].key < 0) → L (rightRL_S l (i + 1)) := fun hc => hL (i + 1) ⟨hlt, fun j hj hji => by
      rcases Nat.lt_or_ge j i with h9 | h9
      · exact hpre j hj h9
      · obtain rfl : j = i := by omega
        exact ⟨hok, hc⟩⟩ (by omega)
    have step : (0 < i → cmpK l[i - 1].key l[i].key < 0) → L (St.mk 46 [(0, .slice (prv l) 4 .ro), (3, .int .i64 (IntKind.wrap .i64 ((i : Int) + 1)))] [] [] Sto.empty) := fun hc => by
      rw [i64_succ hlt (by omega)]; exact nxt hc
    refine brV_by (fun h => ?_) (fun h => step fun h0 => by have := of_decide_eq_false h; omega)
    have h0 : 0 < i := by have := of_decide_eq_true h; omega
    have e1 : IntKind.i64.wrap ((i : Int) - 1) = ((i - 1 : Nat) : Int) := by rw [wrap_i64 (by omega) (by omega)]; omega
    rw [e1, elemAt_prv l (i - 1) (by omega), elemAt_prv l i hlt]
    refine gb_by (dt (by omega)) (gb_by rfl (gb_by (dt (by omega)) (gb_by rfl ?_)))
    intro y hy
    have hy : y = cmpK l[i - 1].key l[i].key := hy
    refine gb_by (and_tt (Lt.lenT_mk (hp _ (List.getElem_mem (by omega))).1) (Lt.lenT_mk hfi.1)) ?_
    refine brV_by (fun h => ?_) (fun h => step fun _ => by have := of_decide_eq_false h; omega)
    have h := of_decide_eq_true h
    exact no hlt (.inr ⟨h0, by omega⟩)
  · have hge : i = l.length := by have := of_decide_eq_false h; omega
    have hinc : incP l = true := (incP_iff l).2 fun j hj => hpre j hj (by omega)
    have e : rightP l = true := by unfold rightP; rw [hinc, decide_eq_true h16]; rfl
    rw [e]
    exact leaveTo (toCut (Eq.mpr (rightRF_r _) (Wk.refl _)))
theorem rightR_ok : EntOk Try.prog rightRE := by
  intro xs σ; simp only [rightRE]; split
  · rename_i es s t
    intro hc
    obtain ⟨h1, h2, h3, h4⟩ := prsOk_of hc
    exact pcall_of (.cons (wk_prv t h1 h2) (.refl _)) (by rw [hold_eq]; exact rightR_c _ h3 h4) (by simp only [noOutL, AVal.noOut, prv_noOut, Bool.and_true]) (by simp only [noTokL, AVal.noTok, prv_noTok, Bool.and_true, Tag.below]) rfl rfl
  · trivial
end Go.Proofs.Ytbghpjamahgegaa
end

section
namespace Go.AL
set_option linter.unusedSimpArgs false
set_option linter.unusedVariables false
theorem u8_ofNat (n : Nat) : IntKind.u8.wrap (n : Int) = ((UInt8.ofNat n).toNat : Int) := by
  rw [IntKind.wrap_u8, UInt8.toNat_ofNat']
  omega
theorem okV_len {v : Vl} (h : okV v = true) : (bytesV v).length ≤ 409 := by
  have h1 := bytesV_len v
  have h2 := (okV_iff v.k v.n v.s).1 h
  rcases h2 with ⟨_, h2⟩ | ⟨_, _, h2⟩
  · rw [h2] at h1; simp at h1; omega
  · omega
def restP (l : List Pr) (i : Nat) : Txt := UInt8.ofNat l.length :: (l.take i).flatMap oneP
theorem restP_succ {l : List Pr} {i : Nat} (h : i < l.length) : restP l (i + 1) = restP l i ++ oneP l[i] := by
  unfold restP
  rw [List.take_add_one, List.getElem?_eq_getElem h, List.flatMap_append]
  simp
theorem restP_len {l : List Pr} (hk : ∀ p ∈ l, p.key.length ≤ 1000000 ∧ okV p.v = true) : ∀ i, i ≤ l.length → (restP l i).length ≤ 1 + i * 1000410
  | 0, _ => by simp [restP]
  | i + 1, h => by
    have ih := restP_len hk i (by omega)
    have := hk _ (List.getElem_mem (show i < l.length by omega))
    have h2 := okV_len this.2
    rw [restP_succ (by omega), List.length_append]
    have : (oneP l[i]).length = 1 + l[i].key.length + (bytesV l[i].v).length := by simp [oneP]; omega
    omega
theorem step_bw (o : Txt) (p : Pr) : bw o ++ [AVal.int .u8 (IntKind.u8.wrap (p.key.length : Int))] ++ List.map ofByte p.key ++ bw (bytesV p.v) = bw (o ++ oneP p) := by
  rw [u8_ofNat, show o ++ oneP p = o ++ [UInt8.ofNat p.key.length] ++ p.key ++ bytesV p.v by simp [oneP], bw_append, bw_append, bw_append]
  rfl
end Go.AL
namespace Go.Proofs.Ytbghpjamahgegaa
open Go.AL
set_option linter.unusedSimpArgs false
set_option linter.unusedVariables false
set_option maxHeartbeats 2000000
set_option maxRecDepth 20000
theorem pos_ok {l : List Pr} (h : rightP l = true) : l.length ≤ 16 ∧ ∀ p ∈ l, nameT p.key = true ∧ okV p.v = true := by
  unfold rightP at h
  rw [Bool.and_eq_true, decide_eq_true_eq] at h
  refine ⟨h.2, fun p hp => ?_⟩
  obtain ⟨j, hj, rfl⟩ := List.getElem_of_mem hp
  have := ((incP_iff l).1 h.1 j hj).1
  unfold okP at this
  rw [Bool.and_eq_true] at this
  exact this
theorem bytes_c (l : List Pr) (hl : l.length ≤ 1000000) (hp : ∀ p ∈ l, p.fit) : ACall Try.prog 11 [.slice (prv l) 4 .ro] Sto.empty fun r _ =>
    Wk r (.tuple [.slice (bw (if rightP l = true then bytesP l else [])) 1 .ro, .int .i64 (if rightP l = true then 0 else 2)]) := by
  refine bytes_i l _ (.of [rightE, V.bytesE] rfl ⟨right_ok, V.bytes_ok, trivial⟩) ?_
  have hn : (prv l).length = l.length := prv_length l
  intro y hy
  have hy : y = rightP l := by rw [hy, map_prOf_prv]; rfl
  refine gb_by (prsOk_mk hl hp) ?_
  rw [← hy]
  simp only [hold_eq]
  cases hyy : y with
  | false =>
    refine brV_by (fun _ => ?_) (fun h => by cases h)
    rw [if_neg (by simp), if_neg (by simp)]
    exact Wk.tuple (.cons (wkW .nil (okW_nil 1 0)) (.refl _))
  | true =>
    refine brV_by (fun h => by cases h) (fun _ => ?_)
    rw [if_pos rfl, if_pos rfl]
    have hr : rightP l = true := by rw [← hy, hyy]
    obtain ⟨h16, hok⟩ := pos_ok hr
    have hlen := restP_len (l := l) (fun p h => ⟨(hp p h).1, (hok p h).2⟩)
    have e0 : [AVal.int .u8 (IntKind.u8.wrap ((prv l).length : Int))] = bw (restP l 0) := by rw [hn, u8_ofNat]; rfl
    rw [e0]
    refine loopV_intro (α := Nat) (fun i => bytesL_S l (restP l i) (prv l).length i) (fun i => i ≤ l.length) (fun i => l.length - i) ?_ 0 (Nat.zero_le _)
    intro i hi L hL
    refine Eq.mpr (bytesL_r l (restP l i) (prv l).length i L _) ?_
    simp only [hold_eq]
    have hb := hlen i hi
    have hbl : (bw (restP l i)).length = (restP l i).length := bw_length _
    refine brV_by (fun h => ?_) (fun h => ?_)
    · have hlt : i < l.length := by have := of_decide_eq_true h; omega
      have hfi := hp _ (List.getElem_mem hlt)
      have hoi := hok _ (List.getElem_mem hlt)
      have hv := okV_len hoi.2
      have hkl := hfi.1
      rw [i64_succ hlt (by omega), elemAt_prv l i hlt]
      refine gb_by (dt (by omega)) (gb_by rfl ?_)
      intro o ho x hx
      have ho : o = okV l[i].v := ho
      have ho1 : o = true := by rw [ho, hoi.2]
      have hx : x = bytesV l[i].v := by rw [hx, if_pos ho1]; rfl
      subst hx
      have nxt := hL (i + 1) hlt (by omega)
      have es := step_bw (restP l i) l[i]
      rw [← restP_succ hlt] at es
      have el : (bw (restP l (i + 1))).length = (restP l i).length + 1 + l[i].key.length + (bytesV l[i].v).length := by
        rw [← es]; simp; omega
      have hb2 := hlen (i + 1) hlt
      rw [bw_length] at el
      refine gb_by (V.i64r_mk hfi.2.2) ?_
      refine gb_by (dt ⟨dt ⟨trivial, trivial, by omega, by omega⟩, trivial⟩) ?_
      refine gb_by (dt ⟨dt ⟨trivial, by (simp <;> try omega), ?_, ?_⟩, trivial⟩) ?_
      · simp [AVal.strOf]; omega
      · simp [AVal.strOf]; omega
      refine gb_by (dt ⟨dt ⟨trivial, by (simp <;> try omega), ?_, ?_⟩, trivial⟩) ?_
      · simp [AVal.strOf]; omega
      · simp [AVal.strOf]; omega
      rw [setOwn_e1, setOwn_e1, setOwn_e1]
      have e3 : bw (restP l i) ++ [AVal.int .u8 (IntKind.u8.wrap ((AVal.strOf (List.getD [AVal.str l[i].key, AVal.int .i64 l[i].v.k, AVal.int .i64 l[i].v.n, AVal.str l[i].v.s] 0 .undef)).length : Int))] ++ List.map ofByte (AVal.strOf (List.getD [AVal.str l[i].key, AVal.int .i64 l[i].v.k, AVal.int .i64 l[i].v.n, AVal.str l[i].v.s] 0 .undef)) ++ bw (bytesV l[i].v) = bw (restP l (i + 1)) := es
      have e4 : (bw (restP l i) ++ [AVal.int .u8 (IntKind.u8.wrap ((AVal.strOf (List.getD [AVal.str l[i].key, AVal.int .i64 l[i].v.k, AVal.int .i64 l[i].v.n, AVal.str l[i].v.s] 0 .undef)).length : Int))] ++ List.map ofByte (AVal.strOf (List.getD [AVal.str l[i].key, AVal.int .i64 l[i].v.k, AVal.int .i64 l[i].v.n, AVal.str l[i].v.s] 0 .undef))).length + (bw (bytesV l[i].v)).length = (bw (restP l (i + 1))).length :=
        List.length_append.symm.trans (congrArg List.length e3)
      rw [e3, e4]
      exact nxt
    · have hge : i = l.length := by have := of_decide_eq_false h; omega
      subst hge
      refine leaveTo (toCut (Eq.mpr (bytesF_r _ _) ?_))
      have : restP l l.length = bytesP l := by unfold restP bytesP; rw [List.take_length]
      rw [this]
      exact Wk.tuple (.cons (Wk.ro _ _ _) (.refl _))
theorem bytes_ok : EntOk Try.prog bytesE := by
  intro xs σ; simp only [bytesE]; split
  · rename_i es s t
    intro hc
    obtain ⟨h1, h2, h3, h4⟩ := prsOk_of hc
    exact pcall_of (v := .tuple [.slice _ 1 .ro, .int .i64 _]) (.cons (wk_prv t h1 h2) (.refl _)) (bytes_c _ h3 h4) (by simp only [noOutL, AVal.noOut, prv_noOut, Bool.and_true]) (by simp only [noTokL, AVal.noTok, prv_noTok, Bool.and_true, Tag.below]) (by simp only [AVal.noOut, noOutL, bw_noOut, Bool.and_true]) (by simp only [AVal.noTok, noTokL, bw_noTok, Tag.below, Bool.and_true])
  · trivial
theorem bytesR_c (l : List Pr) (hl : l.length ≤ 1000000) (hp : ∀ p ∈ l, p.fit) (hr : rightP l = true) : ACall Try.prog 24 [.slice (prv l) 4 .ro] Sto.empty fun r _ =>
    Wk r (.slice (bw (bytesP l)) 1 .ro) := by
  refine bytesR_i l _ (.of [V.bytesRE] rfl ⟨V.bytesR_ok, trivial⟩) ?_
  have hn : (prv l).length = l.length := prv_length l
  obtain ⟨h16, hok⟩ := pos_ok hr
  have hlen := restP_len (l := l) (fun p h => ⟨(hp p h).1, (hok p h).2⟩)
  have e0 : [AVal.int .u8 (IntKind.u8.wrap ((prv l).length : Int))] = bw (restP l 0) := by rw [hn, u8_ofNat]; rfl
  rw [e0]
  refine loopV_intro (α := Nat) (fun i => bytesRL_S l (restP l i) i) (fun i => i ≤ l.length) (fun i => l.length - i) ?_ 0 (Nat.zero_le _)
  intro i hi L hL
  refine Eq.mpr (bytesRL_r l (restP l i) i L _) ?_
  simp only [hold_eq]
  have hb := hlen i hi
  have hbl : (bw (restP l i)).length = (restP l i).length := bw_length _
  refine brV_by (fun h => ?_) (fun h => ?_)
  · have hlt : i < l.length := by have := of_decide_eq_true h; omega
    have hfi := hp _ (List.getElem_mem hlt)
    have hoi := hok _ (List.getElem_mem hlt)
    have hv := okV_len hoi.2
    have hkl := hfi.1
    rw [i64_succ hlt (by omega), elemAt_prv l i hlt]
    have nxt := hL (i + 1) hlt (by omega)
    have es := step_bw (restP l i) l[i]
    rw [← restP_succ hlt] at es
    have el : (bw (restP l (i + 1))).length = (restP l i).length + 1 + l[i].key.length + (bytesV l[i].v).length := by
      rw [← es]; simp; omega
    have hb2 := hlen (i + 1) hlt
    rw [bw_length] at el
    have c1 := decide_eq_true (show (0 : Int) ≤ (i : Int) ∧ (i : Int) < ((prv l).length : Int) by omega)
    refine gb_by c1 (gb_by rfl ?_)
    refine gb_by (dt ⟨dt ⟨trivial, trivial, by omega, by omega⟩, trivial⟩) ?_
    refine gb_by c1 (gb_by rfl ?_)
    refine gb_by (dt ⟨dt ⟨trivial, by (simp <;> try omega), ?_, ?_⟩, trivial⟩) ?_
    · simp [AVal.strOf]; omega
    · simp [AVal.strOf]; omega
    refine gb_by c1 (gb_by rfl ?_)
    intro x hx
    have hx : x = bytesV l[i].v := hx
    subst hx
    refine gb_by (and_tt (V.i64r_mk hfi.2.2) (V.lenT_mk hfi.2.1)) ?_
    refine gb_by (dt ⟨dt ⟨trivial, by (simp <;> try omega), ?_, ?_⟩, trivial⟩) ?_
    · simp [AVal.strOf]; omega
    · simp [AVal.strOf]; omega
    rw [setOwn_e1, setOwn_e1, setOwn_e1]
    have e3 : bw (restP l i) ++ [AVal.int .u8 (IntKind.u8.wrap ((AVal.strOf (List.getD (List.drop 0 [AVal.str l[i].key, AVal.int .i64 l[i].v.k, AVal.int .i64 l[i].v.n, AVal.str l[i].v.s]) 0 .undef)).length : Int))] ++ List.map ofByte (AVal.strOf (List.getD (List.drop 0 [AVal.str l[i].key, AVal.int .i64 l[i].v.k, AVal.int .i64 l[i].v.n, AVal.str l[i].v.s]) 0 .undef)) ++ bw (bytesV l[i].v) = bw (restP l (i + 1)) := es
    have e4 : (bw (restP l i) ++ [AVal.int .u8 (IntKind.u8.wrap ((AVal.strOf (List.getD (List.drop 0 [AVal.str l[i].key, AVal.int .i64 l[i].v.k, AVal.int .i64 l[i].v.n, AVal.str l[i].v.s]) 0 .undef)).length : Int))] ++ List.map ofByte (AVal.strOf (List.getD (List.drop 0 [AVal.str l[i].key, AVal.int .i64 l[i].v.k, AVal.int .i64 l[i].v.n, AVal.str l[i].v.s]) 0 .undef))).length + (bw (bytesV l[i].v)).length = (bw (restP l (i + 1))).length :=
      List.length_append.symm.trans (congrArg List.length e3)
    rw [e3, e4]
    exact nxt
  · have hge : i = l.length := by have := of_decide_eq_false h; omega
    subst hge
    have : restP l l.length = bytesP l := by unfold restP bytesP; rw [List.take_length]
    rw [this]
    exact Wk.ro _ _ _
theorem bytesR_ok : EntOk Try.prog bytesRE := by
  intro xs σ; simp only [bytesRE]; split
  · rename_i es s t
    intro hc
    rw [Bool.and_eq_true, hold_eq] at hc
    obtain ⟨h1, h2, h3, h4⟩ := prsOk_of hc.1
    exact pcall_of (v := .slice _ 1 .ro) (.cons (wk_prv t h1 h2) (.refl _)) (bytesR_c _ h3 h4 hc.2) (by simp only [noOutL, AVal.noOut, prv_noOut, Bool.and_true]) (by simp only [noTokL, AVal.noTok, prv_noTok, Bool.and_true, Tag.below]) (by simp only [AVal.noOut, noOutL, bw_noOut, Bool.and_true]) (by simp only [AVal.noTok, noTokL, bw_noTok, Tag.below, Bool.and_true])
  · trivial
end Go.Proofs.Ytbghpjamahgegaa
end

section
namespace Go.AL
set_option linter.unusedSimpArgs false
set_option linter.unusedVariables false
set_option maxRecDepth 20000

/-! ### The order -/
theorem cmpR_range : ∀ a b : List Int, cmpR a b = -1 ∨ cmpR a b = 0 ∨ cmpR a b = 1
  | [], [] => by simp [cmpR]
  | [], _ :: _ => by simp [cmpR]
  | _ :: _, [] => by simp [cmpR]
  | x :: a, y :: b => by
    rw [cmpR]
    split
    · simp
    · split
      · simp
      · exact cmpR_range a b
theorem cmpR_swap : ∀ a b : List Int, cmpR b a = - cmpR a b
  | [], [] => rfl
  | [], _ :: _ => rfl
  | _ :: _, [] => rfl
  | x :: a, y :: b => by
    rw [cmpR, cmpR]
    have := cmpR_swap a b
    repeat' split
    all_goals omega
theorem cmpR_self : ∀ a : List Int, cmpR a a = 0
  | [] => rfl
  | x :: a => by rw [cmpR, if_neg (by omega), if_neg (by omega)]; exact cmpR_self a
theorem cmpR_eq : ∀ {a b : List Int}, cmpR a b = 0 → a = b
  | [], [], _ => rfl
  | [], _ :: _, h => by simp [cmpR] at h
  | _ :: _, [], h => by simp [cmpR] at h
  | x :: a, y :: b, h => by
    rw [cmpR] at h
    split at h
    · omega
    · split at h
      · omega
      · have : x = y := by omega
        rw [this, cmpR_eq h]
theorem cmpR_trans : ∀ a b c : List Int, cmpR a b ≤ 0 → cmpR b c ≤ 0 → cmpR a c ≤ 0
  | [], _, [], _, _ => by simp [cmpR]
  | [], _, _ :: _, _, _ => by simp [cmpR]
  | _ :: _, [], _, h, _ => by simp [cmpR] at h
  | _ :: _, _ :: _, [], _, h => by simp [cmpR] at h
  | x :: a, y :: b, z :: c, h1, h2 => by
    rw [cmpR] at h1 h2 ⊢
    have ih := cmpR_trans a b c
    split at h1
    · split at h2
      · rw [if_pos (by omega)]; omega
      · split at h2
        · omega
        · rw [if_pos (by omega)]; omega
    · split at h1
      · omega
      · split at h2
        · rw [if_pos (by omega)]; omega
        · split at h2
          · omega
          · rw [if_neg (by omega), if_neg (by omega)]
            exact ih h1 h2
theorem cmpR_head : ∀ h a b : List Int, cmpR (h ++ a) (h ++ b) = cmpR a b
  | [], a, b => rfl
  | x :: h, a, b => by
    rw [List.cons_append, List.cons_append, cmpR, if_neg (by omega), if_neg (by omega)]
    exact cmpR_head h a b
theorem cmpR_more (a b : List Int) : cmpR a (a ++ b) = if b = [] then 0 else -1 := by
  have := cmpR_head a [] b
  rw [List.append_nil] at this
  rw [this]
  cases b with
  | nil => rfl
  | cons x b => rfl

/-! ### Cuts -/
theorem posT_shift (s : Txt) : ∀ (k p x : Nat), posT s k (p + x) = p + posT (s.drop p) k x
  | 0, p, x => rfl
  | k + 1, p, x => by
    have hw : decW s (p + x) = decW (s.drop p) x := by rw [decW_L, decW_L, List.drop_drop]
    rw [posT, posT, List.length_drop]
    by_cases h : p + x < s.length
    · rw [if_pos h, if_pos (by omega), hw, Nat.add_assoc, posT_shift s k p]
    · rw [if_neg h, if_neg (by omega)]
theorem posT_ge (s : Txt) : ∀ (k p : Nat), p ≤ posT s k p
  | 0, p => Nat.le_refl _
  | k + 1, p => by
    rw [posT]
    split
    · have := posT_ge s k (p + decW s p); omega
    · exact Nat.le_refl _
theorem posT_le (s : Txt) : ∀ (k p : Nat), p ≤ s.length → posT s k p ≤ s.length
  | 0, p, h => h
  | k + 1, p, h => by
    rw [posT]
    split
    · rename_i hp
      exact posT_le s k _ (decW_le hp)
    · exact h
theorem rest_pos (s : Txt) : ∀ (k p : Nat), restR s (posT s k p) = (restR s p).drop k
  | 0, p => rfl
  | k + 1, p => by
    rw [posT]
    split
    · rename_i hp
      rw [rest_pos s k, restR_step hp, List.drop_succ_cons]
    · rename_i hp
      rw [restR_end (by omega)]; rfl
theorem decN_le {n b0 b1 b2 b3 : Nat} (h0 : 0 < n) : (Lib.decodeN n b0 b1 b2 b3).2 ≤ n := by
  rcases Lib.decodeN_shape n b0 b1 b2 b3 with ⟨c, e⟩ | ⟨c1, c2, c3, cv, e⟩ | ⟨c1, c2, c3, c4, cv, cs, e⟩ | ⟨c1, c2, c3, c4, c5, cv, cw, e⟩ | e
  all_goals rw [e]; dsimp only; omega
theorem getD_takeT (l : Txt) {m j : Nat} (h : j < m) : (l.take m).getD j 0 = l.getD j 0 := by
  simp [List.getD, List.getElem?_take, h]
/-- What stands behind a rune does not matter to it. -/
theorem dec_take (l : Txt) (m : Nat) (hm : (Lib.decodeL l).2 ≤ m) (h1 : 1 ≤ m) : Lib.decodeL (l.take m) = Lib.decodeL l := by
  rw [Lib.decodeL_N] at hm ⊢
  rw [Lib.decodeL_N]
  have ht : (l.take m).length = min m l.length := List.length_take
  have e0 : (l.take m).getD 0 0 = l.getD 0 0 := getD_takeT l (by omega)
  have e1 : 2 ≤ m → (l.take m).getD 1 0 = l.getD 1 0 := fun h => getD_takeT l (by omega)
  have e2 : 3 ≤ m → (l.take m).getD 2 0 = l.getD 2 0 := fun h => getD_takeT l (by omega)
  have e3 : 4 ≤ m → (l.take m).getD 3 0 = l.getD 3 0 := fun h => getD_takeT l (by omega)
  rw [e0]
  generalize (l.getD 0 0).toNat = b0 at *
  have key : ∀ (n n' b1 b2 b3 c1 c2 c3 w : Nat), (Lib.decodeN n b0 b1 b2 b3).2 = w → Lib.decodeN n b0 b1 b2 b3 ≠ (65533, 1) → w ≤ n' → (2 ≤ w → c1 = b1) → (3 ≤ w → c2 = b2) → (4 ≤ w → c3 = b3) → Lib.decodeN n' b0 c1 c2 c3 = Lib.decodeN n b0 b1 b2 b3 := by
    intro n n' b1 b2 b3 c1 c2 c3 w hw hne hn h1 h2 h3
    rcases Lib.decodeN_shape n b0 b1 b2 b3 with ⟨c, e⟩ | ⟨k1, k2, k3, kv, e⟩ | ⟨k1, k2, k3, k4, kv, ks, e⟩ | ⟨k1, k2, k3, k4, k5, kv, kw, e⟩ | e
    · rw [e]; unfold Lib.decodeN; rw [if_pos c]
    · rw [e] at hw ⊢
      have hw : 2 = w := hw
      rw [h1 (by omega)]
      unfold Lib.decodeN; rw [if_neg (by omega), if_pos ⟨k1, by omega, k3⟩, if_pos (by omega)]
    · rw [e] at hw ⊢
      have hw : 3 = w := hw
      rw [h1 (by omega), h2 (by omega)]
      unfold Lib.decodeN; rw [if_neg (by omega), if_neg (by omega), if_pos ⟨k1, ⟨by omega, k3⟩, by omega, k4⟩, if_pos ⟨by omega, by omega⟩]
    · rw [e] at hw ⊢
      have hw : 4 = w := hw
      rw [h1 (by omega), h2 (by omega), h3 (by omega)]
      unfold Lib.decodeN; rw [if_neg (by omega), if_neg (by omega), if_neg (by omega), if_pos ⟨k1, ⟨by omega, k3⟩, ⟨by omega, k4⟩, by omega, k5⟩, if_pos ⟨by omega, by omega⟩]
    · exact absurd e hne
  by_cases hO : Lib.decodeN l.length b0 (l.getD 1 0).toNat (l.getD 2 0).toNat (l.getD 3 0).toNat = (65533, 1)
  · by_cases hT : Lib.decodeN (l.take m).length b0 ((l.take m).getD 1 0).toNat ((l.take m).getD 2 0).toNat ((l.take m).getD 3 0).toNat = (65533, 1)
    · rw [hT, hO]
    · by_cases hl : l.length = 0
      · have : l = [] := List.eq_nil_of_length_eq_zero hl
        subst this; simp
      · have hle := decN_le (n := (l.take m).length) (b0 := b0) (b1 := ((l.take m).getD 1 0).toNat) (b2 := ((l.take m).getD 2 0).toNat) (b3 := ((l.take m).getD 3 0).toNat) (by rw [ht]; omega)
        refine (key _ l.length _ _ _ _ _ _ _ rfl hT (by omega) (fun h => ?_) (fun h => ?_) (fun h => ?_)).symm
        · rw [e1 (by omega)]
        · rw [e2 (by omega)]
        · rw [e3 (by omega)]
  · by_cases hl : l.length = 0
    · have : l = [] := List.eq_nil_of_length_eq_zero hl
      subst this; simp
    · have hle := decN_le (n := l.length) (b0 := b0) (b1 := (l.getD 1 0).toNat) (b2 := (l.getD 2 0).toNat) (b3 := (l.getD 3 0).toNat) (by omega)
      refine key _ _ _ _ _ _ _ _ _ rfl hO (by omega) (fun h => ?_) (fun h => ?_) (fun h => ?_)
      · rw [e1 (by omega)]
      · rw [e2 (by omega)]
      · rw [e3 (by omega)]
theorem dec_pre {s : Txt} {p q : Nat} (hp : p < s.length) (hq : p + decW s p ≤ q) : decR (s.take q) p = decR s p ∧ decW (s.take q) p = decW s p := by
  have hw := decW_pos hp
  rw [decW_L] at hq hw
  have : (s.take q).drop p = (s.drop p).take (q - p) := List.drop_take
  rw [decR_L, decW_L, decR_L, decW_L, this, dec_take _ _ (by omega) (by omega)]
  exact ⟨rfl, rfl⟩
theorem rest_take (s : Txt) : ∀ (k p : Nat), p ≤ s.length → restR (s.take (posT s k p)) p = (restR s p).take k
  | 0, p, h => by
    rw [posT, restR_end (by rw [List.length_take]; omega)]; rfl
  | k + 1, p, h => by
    rw [posT]
    split
    · rename_i hp
      have hw := decW_pos hp
      have hg := posT_ge s k (p + decW s p)
      have hle := posT_le s k (p + decW s p) (decW_le hp)
      obtain ⟨d1, d2⟩ := dec_pre hp hg
      rw [restR_step (s := s.take _) (by rw [List.length_take]; omega), d1, d2, rest_take s k _ (decW_le hp), restR_step hp, List.take_succ_cons]
    · rename_i hp
      rw [restR_end (by rw [List.length_take]; omega), restR_end (s := s) (by omega)]; rfl
theorem pos_take (s : Txt) : ∀ (j k p : Nat), p ≤ s.length → posT (s.take (posT s k p)) j p = posT s (min j k) p
  | 0, k, p, h => by rw [Nat.zero_min]; rfl
  | j + 1, 0, p, h => by
    have e0 : posT s 0 p = p := rfl
    rw [Nat.min_zero, e0, posT, if_neg (by rw [List.length_take]; omega)]
  | j + 1, k + 1, p, h => by
    have hm : min (j + 1) (k + 1) = min j k + 1 := by omega
    rw [hm]
    by_cases hp : p < s.length
    · have hw := decW_pos hp
      have e : posT s (k + 1) p = posT s k (p + decW s p) := by rw [posT, if_pos hp]
      have hg := posT_ge s k (p + decW s p)
      have hle := posT_le s k (p + decW s p) (decW_le hp)
      obtain ⟨d1, d2⟩ := dec_pre hp hg
      rw [e]
      rw [posT, if_pos (by rw [List.length_take]; omega), d2, pos_take s j k _ (decW_le hp)]
      rw [posT, if_pos hp]
    · have e : posT s (k + 1) p = p := by rw [posT, if_neg hp]
      rw [e, posT, if_neg (by rw [List.length_take]; omega), posT, if_neg hp]
theorem cut_runes (s : Txt) (n : Int) : runeL (cutT s n) = (runeL s).take n.toNat := rest_take s n.toNat 0 (Nat.zero_le _)
theorem cut_len (s : Txt) (n : Int) : (cutT s n).length = posT s n.toNat 0 := by
  unfold cutT
  rw [List.length_take]
  have := posT_le s n.toNat 0 (Nat.zero_le _)
  omega
theorem cut_rest (s : Txt) (n : Int) : runeL (s.drop (cutT s n).length) = (runeL s).drop n.toNat := by
  rw [cut_len, ← restR_drop s s.length _ (by omega), rest_pos]; rfl
theorem cut_pre (s : Txt) (n : Int) : s.take (cutT s n).length = cutT s n := by rw [cut_len]; rfl
theorem cut_cut (s : Txt) (n m : Int) : cutT (cutT s n) m = cutT s (if m < n then m else n) := by
  have h1 : posT (cutT s n) m.toNat 0 = posT s (min m.toNat n.toNat) 0 := pos_take s m.toNat n.toNat 0 (Nat.zero_le _)
  have h2 := posT_le (cutT s n) m.toNat 0 (Nat.zero_le _)
  rw [cut_len] at h2
  have h3 : (if m < n then m else n).toNat = min m.toNat n.toNat := by split <;> omega
  show (cutT s n).take (posT (cutT s n) m.toNat 0) = s.take (posT s (if m < n then m else n).toNat 0)
  rw [h3, h1] at *
  unfold cutT
  rw [List.take_take]
  congr 1
  omega
theorem pos_txt : ∀ (l : List Int) (t : Txt), posT (txtR l ++ t) l.length 0 = (txtR l).length
  | [], t => rfl
  | r :: l, t => by
    have e : txtR (r :: l) = encA r ++ txtR l := rfl
    have hp := encA_pos r
    have hw : decW (encA r ++ txtR l ++ t) 0 = (encA r).length := by rw [decW_L, List.drop_zero, List.append_assoc, dec_enc]
    rw [e, List.length_cons, posT, if_pos (by simp only [List.length_append]; omega), hw, Nat.zero_add]
    have := posT_shift (encA r ++ txtR l ++ t) l.length (encA r).length 0
    rw [Nat.add_zero] at this
    rw [this, List.append_assoc, List.drop_left, pos_txt l t, List.length_append]
theorem cut_txt (l : List Int) (k : Nat) (hk : k ≤ l.length) : cutT (txtR l) (k : Int) ++ txtR (l.drop k) = txtR l := by
  have e : txtR l = txtR (l.take k) ++ txtR (l.drop k) := by rw [← txtR_append, List.take_append_drop]
  have h := pos_txt (l.take k) (txtR (l.drop k))
  rw [← e, List.length_take, Nat.min_eq_left hk] at h
  unfold cutT
  rw [Int.toNat_natCast, h]
  conv => lhs; lhs; rw [e]
  rw [List.take_left, ← e]

/-! ### Patterns -/
inductive Fit : List Int → List Int → Prop
  | nil : Fit [] []
  | star {u v p : List Int} (h : Fit v p) : Fit (u ++ v) (42 :: p)
  | one {x c : Int} {t p : List Int} (hc : c ≠ 42) (h1 : c = 63 ∨ c = x) (h : Fit t p) : Fit (x :: t) (c :: p)
theorem Fit.app {t p : List Int} (h : Fit t p) {t' p' : List Int} (h' : Fit t' p') : Fit (t ++ t') (p ++ p') := by
  induction h with
  | nil => exact h'
  | star h ih => rw [List.append_assoc]; exact .star ih
  | one hc h1 h ih => exact .one hc h1 ih
theorem Fit.split : ∀ {p p' t : List Int}, Fit t (p ++ p') → ∃ a b, t = a ++ b ∧ Fit a p ∧ Fit b p'
  | [], p', t, h => ⟨[], t, rfl, .nil, h⟩
  | c :: p, p', t, h => by
    rw [List.cons_append] at h
    cases h with
    | star h =>
      rename_i u v
      obtain ⟨a, b, rfl, ha, hb⟩ := h.split
      exact ⟨u ++ a, b, by rw [List.append_assoc], .star ha, hb⟩
    | one hc h1 h =>
      rename_i x t
      obtain ⟨a, b, rfl, ha, hb⟩ := h.split
      exact ⟨x :: a, b, rfl, .one hc h1 ha, hb⟩
theorem Fit.self : ∀ t : List Int, Fit t t
  | [] => .nil
  | x :: t => by
    by_cases h : x = 42
    · subst h
      exact .star (u := [42]) (Fit.self t)
    · exact .one h (.inr rfl) (Fit.self t)
theorem Fit.star1 (u : List Int) : Fit u [42] := by
  have := Fit.star (u := u) (v := []) .nil
  rwa [List.append_nil] at this
theorem Fit.more {t a b : List Int} (h : Fit t (a ++ b)) : Fit t (a ++ [42] ++ b) := by
  obtain ⟨x, y, rfl, hx, hy⟩ := h.split
  have := (hx.app (Fit.star1 [])).app hy
  rwa [List.append_nil] at this
theorem Fit.plain : ∀ {p t : List Int}, (∀ c ∈ p, c ≠ 42 ∧ c ≠ 63) → Fit t p → t = p
  | [], t, _, h => by cases h; rfl
  | c :: p, t, hp, h => by
    have h0 := hp c (List.mem_cons_self ..)
    generalize hq : c :: p = q at h
    cases h with
    | nil => cases hq
    | star h => cases hq; exact absurd rfl h0.1
    | one hc h1 h =>
      cases hq
      rcases h1 with h1 | h1
      · exact absurd h1 h0.2
      · rw [h1, Fit.plain (fun x hx => hp x (List.mem_cons_of_mem _ hx)) h]
theorem Fit.snoc {t p : List Int} {c : Int} (hc : c ≠ 42) : Fit t (p ++ [c]) ↔ ∃ a x, t = a ++ [x] ∧ (c = 63 ∨ c = x) ∧ Fit a p := by
  constructor
  · intro h
    obtain ⟨a, b, rfl, ha, hb⟩ := h.split
    generalize hq : [c] = q at hb
    cases hb with
    | nil => cases hq
    | star h => cases hq; exact absurd rfl hc
    | one _ h1 h2 =>
      cases hq
      cases h2
      exact ⟨a, _, rfl, h1, ha⟩
  · rintro ⟨a, x, rfl, h1, ha⟩
    exact ha.app (.one hc h1 .nil)
theorem rows_fit (t : List Int) : ∀ (n : Nat) (p : List Int), p.length = n → ∀ i, i ≤ t.length → ((rowsF t p).getD i false = true ↔ Fit (t.take i) p)
  | 0, p, hp, i, hi => by
    have : p = [] := List.eq_nil_of_length_eq_zero hp
    subst this
    have e : (rowsF t []).getD i false = decide (i = 0) := by
      simp [rowsF, row0, List.getD, List.getElem?_range (show i < t.length + 1 by omega)]
    rw [e, decide_eq_true_eq]
    constructor
    · rintro rfl; exact .nil
    · intro h
      generalize ht : t.take i = u at h
      cases h
      have h9 : (t.take i).length = 0 := by rw [ht]; rfl
      rw [List.length_take] at h9
      omega
  | n + 1, p, hp, i, hi => by
    obtain ⟨q, c, rfl⟩ : ∃ q c, p = q ++ [c] := by
      rcases List.eq_nil_or_concat p with h | ⟨q, c, h⟩
      · subst h; simp at hp
      · exact ⟨q, c, by rw [h, List.concat_eq_append]⟩
    have hq : q.length = n := by simpa using hp
    have ih := rows_fit t n q hq
    have hfl : (rowsF t q).length = t.length + 1 := by
      rcases List.eq_nil_or_concat q with h | ⟨q', c', h⟩
      · subst h; simp [rowsF, row0]
      · subst h; rw [List.concat_eq_append]; simp [rowsF, rowF]
    have er : rowsF t (q ++ [c]) = rowF t c (rowsF t q) := by simp [rowsF]
    have e : (rowsF t (q ++ [c])).getD i false = rowB t c (rowsF t q) i := by
      rw [er]
      simp [rowF, List.getD, List.getElem?_range (show i < t.length + 1 by omega)]
    rw [e]
    unfold rowB
    split
    · rename_i hc
      subst hc
      rw [List.any_eq_true]
      constructor
      · rintro ⟨b, hb, hbt⟩
        obtain ⟨j, hj, rfl⟩ := List.getElem_of_mem hb
        rw [List.length_take] at hj
        rw [List.getElem_take] at hbt
        have hf := (ih j (by omega)).1 (by rw [List.getD_eq_getElem?_getD, List.getElem?_eq_getElem (by omega)]; exact hbt)
        have hs : t.take i = t.take j ++ (t.take i).drop j := by
          conv => lhs; rw [← List.take_append_drop j (t.take i)]
          rw [List.take_take, Nat.min_eq_left (by omega)]
        rw [hs]
        exact hf.app (Fit.star1 _)
      · intro h
        obtain ⟨a, b, hab, ha, hb⟩ := h.split
        have hla : a.length ≤ i := by
          have := congrArg List.length hab
          rw [List.length_take, List.length_append] at this; omega
        have hta : t.take a.length = a := by
          have h1 : (t.take i).take a.length = a := by rw [hab, List.take_left]
          rwa [List.take_take, Nat.min_eq_left hla] at h1
        have hf := (ih a.length (by omega)).2 (by rw [hta]; exact ha)
        rw [List.getD_eq_getElem?_getD, List.getElem?_eq_getElem (by omega)] at hf
        exact ⟨_, List.mem_take_iff_getElem.2 ⟨a.length, by omega, rfl⟩, hf⟩
    · rename_i hc
      rw [Fit.snoc hc]
      simp only [Bool.and_eq_true, decide_eq_true_eq, Bool.or_eq_true, beq_iff_eq]
      constructor
      · rintro ⟨h0, h1, h2⟩
        have hil : i - 1 < t.length := by omega
        have hf := (ih (i - 1) (by omega)).1 h2
        refine ⟨t.take (i - 1), t.getD (i - 1) 0, ?_, h1, hf⟩
        have h3 : i = (i - 1) + 1 := by omega
        conv => lhs; rw [h3]
        rw [List.take_add_one, List.getElem?_eq_getElem hil]
        simp [List.getD, List.getElem?_eq_getElem hil]
      · rintro ⟨a, x, hax, h1, ha⟩
        have hl : a.length + 1 = i := by
          have := congrArg List.length hax
          rw [List.length_take, List.length_append, List.length_singleton] at this; omega
        have hta : t.take a.length = a := by
          have h1 : (t.take i).take a.length = a := by rw [hax, List.take_left]
          rwa [List.take_take, Nat.min_eq_left (by omega)] at h1
        have hx : t.getD (i - 1) 0 = x := by
          have h1 : (t.take i)[a.length]? = some x := by rw [hax]; simp
          rw [List.getElem?_take, if_pos (by omega)] at h1
          rw [show i - 1 = a.length by omega, List.getD_eq_getElem?_getD, h1]; rfl
        refine ⟨by omega, by rw [hx]; exact h1, ?_⟩
        rw [show i - 1 = a.length by omega]
        exact (ih a.length (by omega)).2 (by rw [hta]; exact ha)
theorem like_fit (t p : List Int) : likeR t p = true ↔ Fit t p := by
  have := rows_fit t p.length p rfl t.length (Nat.le_refl _)
  rw [List.take_length] at this
  exact this

/-! ### Folds -/
theorem fdR_valid {r : Int} (h : Utf8.valid r = true) : Utf8.valid (fdR r) = true := by
  have := valid_of h
  refine valid_mk ?_
  unfold fdR
  split <;> omega
theorem fdR_fdR (r : Int) : fdR (fdR r) = fdR r := by
  unfold fdR
  split
  · rw [if_neg (by omega)]
  · rfl
theorem fold_runes (s : Txt) : runeL (txtR ((runeL s).map fdR)) = (runeL s).map fdR := by
  rw [runeL_txt']
  conv => rhs; rw [← List.map_id ((runeL s).map fdR)]
  refine List.map_congr_left fun r hr => ?_
  obtain ⟨x, hx, rfl⟩ := List.mem_map.1 hr
  exact fix_valid (fdR_valid (runeL_valid _ s (Nat.le_refl _) x hx))
theorem fold_twice (s : Txt) : txtR ((runeL (txtR ((runeL s).map fdR))).map fdR) = txtR ((runeL s).map fdR) := by
  rw [fold_runes, List.map_map]
  congr 1
  exact List.map_congr_left fun r _ => fdR_fdR r
end Go.AL
end

section
namespace Go.AL
set_option linter.unusedSimpArgs false
set_option linter.unusedVariables false
/-! ### The order of names -/
theorem cmpK_swap (a b : Txt) : cmpK b a = - cmpK a b := cmpR_swap _ _
theorem cmpK_self (a : Txt) : cmpK a a = 0 := cmpR_self _
theorem cmpK_le_lt {a b c : Txt} (h1 : cmpK a b ≤ 0) (h2 : cmpK b c < 0) : cmpK a c < 0 := by
  have h := cmpR_trans (runeL a) (runeL b) (runeL c) h1 (by unfold cmpK at h2; omega)
  rcases Int.lt_or_eq_of_le h with h | h
  · exact h
  · have e := cmpR_eq h
    have h3 := cmpK_swap a b
    unfold cmpK at h1 h2 h3
    rw [e] at h1 h3
    omega
theorem cmpK_lt_le {a b c : Txt} (h1 : cmpK a b < 0) (h2 : cmpK b c ≤ 0) : cmpK a c < 0 := by
  have s1 := cmpK_swap b c
  have s2 := cmpK_swap a b
  have h := cmpR_trans (runeL a) (runeL b) (runeL c) (by unfold cmpK at h1; omega) h2
  rcases Int.lt_or_eq_of_le h with h | h
  · exact h
  · have e := cmpR_eq h
    unfold cmpK at h1 h2 s1 s2
    rw [e] at h1 s2
    omega
theorem cmpK_trans {a b c : Txt} (h1 : cmpK a b < 0) (h2 : cmpK b c < 0) : cmpK a c < 0 := cmpK_lt_le h1 (by omega)
theorem incP_tail {p : Pr} {l : List Pr} (h : incP (p :: l) = true) : incP l = true := by
  cases l with
  | nil => rfl
  | cons q r =>
    simp only [incP, Bool.and_eq_true] at h
    exact h.2.2
theorem incP_head {p : Pr} : ∀ {l : List Pr}, incP (p :: l) = true → ∀ q ∈ l, cmpK p.key q.key < 0
  | [], _, q, hq => by cases hq
  | x :: r, h, q, hq => by
    simp only [incP, Bool.and_eq_true, decide_eq_true_eq] at h
    rcases List.mem_cons.1 hq with rfl | hq
    · exact h.2.1
    · exact cmpK_trans h.2.1 (incP_head (p := x) h.2.2 q hq)
theorem incP_lt : ∀ {l : List Pr}, incP l = true → ∀ i j (hi : i < l.length) (hj : j < l.length), i < j → cmpK l[i].key l[j].key < 0
  | [], _, i, _, hi, _, _ => by simp at hi
  | p :: l, h, 0, j + 1, _, hj, _ => incP_head h _ (List.getElem_mem _)
  | p :: l, h, i + 1, j + 1, hi, hj, hij => incP_lt (incP_tail h) i j (by simpa using hi) (by simpa using hj) (by omega)
theorem putP_take : ∀ (l : List Pr) (p : Pr) (i : Nat), (∀ j (h : j < l.length), j < i → cmpK l[j].key p.key < 0) → putP l p = l.take i ++ putP (l.drop i) p
  | l, p, 0, _ => by simp
  | [], p, i + 1, _ => by simp
  | q :: l, p, i + 1, h => by
    have h0 : cmpK q.key p.key < 0 := h 0 (by simp) (by omega)
    rw [putP, if_pos h0, putP_take l p i fun j hj hji => h (j + 1) (by simpa using hj) (by omega)]
    rfl
theorem putP_end (l : List Pr) (p : Pr) (h : ∀ j (h : j < l.length), cmpK l[j].key p.key < 0) : putP l p = l ++ [p] := by
  rw [putP_take l p l.length fun j hj _ => h j hj, List.take_length, List.drop_length]
  rfl
theorem putP_at (l : List Pr) (p : Pr) (i : Nat) (hi : i < l.length) (h : ∀ j (h : j < l.length), j < i → cmpK l[j].key p.key < 0) (h0 : 0 ≤ cmpK l[i].key p.key) :
    putP l p = l.take i ++ p :: l.drop (if cmpK l[i].key p.key = 0 then i + 1 else i) := by
  rw [putP_take l p i h]
  congr 1
  rw [List.drop_eq_getElem_cons hi, putP, if_neg (by omega)]
  split
  · rfl
  · rw [List.drop_eq_getElem_cons hi]
theorem prv_append (a b : List Pr) : prv (a ++ b) = prv a ++ prv b := by simp [prv]
/-- Behind so many of the list: laid already or not, what is there. -/
def PutI (l : List Pr) (p : Pr) (i : Nat) (d : Bool) (o : List Pr) : Prop :=
  i ≤ l.length ∧ o.length ≤ i + 1 ∧ (d = false → o = l.take i ∧ ∀ j (h : j < l.length), j < i → cmpK l[j].key p.key < 0) ∧ (d = true → putP l p = o ++ l.drop i ∧ ∀ j (h : j < l.length), i ≤ j → 0 < cmpK l[j].key p.key)
end Go.AL
namespace Go.Proofs.Ytbghpjamahgegaa
open Go.AL
set_option linter.unusedSimpArgs false
set_option linter.unusedVariables false
set_option maxHeartbeats 2000000
set_option maxRecDepth 20000
theorem putR_c (l : List Pr) (key : Txt) (k n : Int) (s : Txt) (hl : l.length ≤ 1000000) (hp : ∀ p ∈ l, p.fit) (hinc : incP l = true) (hk : key.length ≤ 1000000) :
    ACall Try.prog 43 [.slice (prv l) 4 .ro, .agg [.str key, .int .i64 k, .int .i64 n, .str s]] Sto.empty fun r _ => Wk r (.slice (prv (putP l ⟨key, ⟨k, n, s⟩⟩)) 4 .ro) := by
  refine putR_i l key k n s _ (.of [Lt.compareRE] rfl ⟨Lt.compareR_ok, trivial⟩) ?_
  have hn : (prv l).length = l.length := prv_length l
  obtain ⟨p, hpe⟩ : ∃ p : Pr, p = ⟨key, ⟨k, n, s⟩⟩ := ⟨_, rfl⟩
  have hpk : p.key = key := by rw [hpe]
  have hpa : [AVal.agg [.str key, .int .i64 k, .int .i64 n, .str s]] = prv [p] := by rw [hpe]; rfl
  rw [← hpe]
  refine loopV_intro (α := Nat × Bool × List Pr) (fun x => putRL_S l x.2.2 key k n s x.2.1 x.1) (fun x => PutI l p x.1 x.2.1 x.2.2) (fun x => l.length - x.1) ?_ (0, false, []) ⟨Nat.zero_le _, by simp, fun _ => ⟨by simp, fun j _ h => by omega⟩, fun h => by cases h⟩
  rintro ⟨i, d, o⟩ hI L hL
  obtain ⟨hi, ho, hf, ht⟩ : PutI l p i d o := hI
  refine Eq.mpr (putRL_r l o key k n s d i L _) ?_
  have hol := prv_length o
  have hap : prv o ++ [AVal.agg [.str key, .int .i64 k, .int .i64 n, .str s]] = prv (o ++ [p]) := by rw [hpa, prv_append]
  simp only [hold_eq, hap]
  refine brV_by (fun h => ?_) (fun h => ?_)
  · have hlt : i < l.length := by have := of_decide_eq_true h; omega
    have hfi := hp _ (List.getElem_mem hlt)
    rw [elemAt_prv l i hlt]
    refine gb_by (dt (by omega)) (gb_by rfl ?_)
    intro y hy
    have hy : y = cmpK l[i].key p.key := by rw [hpk]; exact hy
    refine gb_by (and_tt (Lt.lenT_mk hfi.1) (Lt.lenT_mk hk)) ?_
    -- the second half of a round
    have half : ∀ (d' : Bool) (o' : List Pr), o'.length ≤ i + 1 → (y ≠ 0 → PutI l p (i + 1) d' (o' ++ [l[i]])) → (y = 0 → PutI l p (i + 1) d' o') →
        ∀ K' : Exit → St → Prop, (∀ o'' : List Pr, ∀ b : Bool, PutI l p (i + 1) d' o'' → K' .normal (St.mk 49 [(0, .slice (prv l) 4 .ro), (3, .ptr (.loc 3) 0), (5, .slice (prv o'') 4 (.own 0)), (6, .bool d'), (7, .int .i64 (i : Int)), (8, .int .i64 y), (34, .bool b)] [] [(3, .cells [.str key, .int .i64 k, .int .i64 n, .str s])] (Sto.pushOwn Sto.empty (prv o'').length))) →
        vc Try.prog cPutR putRS_C K' (putRS_S l o' key k n s d' i y) := by
      intro d' o' ho' hne heq K' hK'
      refine Eq.mpr (putRS_r l o' key k n s d' i y _) ?_
      have hol := prv_length o'
      simp only [hold_eq]
      refine brV_by (fun h => ?_) (fun h => ?_)
      · have h0 : y ≠ 0 := by simpa using h
        rw [elemAt_prv l i hlt]
        refine gb_by (dt (by omega)) (gb_by rfl (gb_by (dt ⟨dt ⟨trivial, trivial, by omega, by omega⟩, trivial⟩) ?_))
        have e1 : prv o' ++ [AVal.agg [AVal.str (AVal.strOf (List.getD [AVal.str l[i].key, AVal.int .i64 l[i].v.k, AVal.int .i64 l[i].v.n, AVal.str l[i].v.s] 0 .undef)), AVal.int .i64 (AVal.intOf (List.getD [AVal.str l[i].key, AVal.int .i64 l[i].v.k, AVal.int .i64 l[i].v.n, AVal.str l[i].v.s] 1 .undef)), AVal.int .i64 (AVal.intOf (List.getD [AVal.str l[i].key, AVal.int .i64 l[i].v.k, AVal.int .i64 l[i].v.n, AVal.str l[i].v.s] 2 .undef)), AVal.str (AVal.strOf (List.getD [AVal.str l[i].key, AVal.int .i64 l[i].v.k, AVal.int .i64 l[i].v.n, AVal.str l[i].v.s] 3 .undef))]] = prv (o' ++ [l[i]]) := by rw [prv_append]; rfl
        rw [e1, setOwn_e1, show (prv o').length + 1 = (prv (o' ++ [l[i]])).length by simp]
        exact hK' _ _ (hne h0)
      · have h0 : y = 0 := by simpa using h
        exact hK' _ _ (heq h0)
    have nxt : ∀ (d' : Bool) (o'' : List Pr), PutI l p (i + 1) d' o'' → L (St.mk 49 [(0, .slice (prv l) 4 .ro), (3, .ptr (.loc 3) 0), (5, .slice (prv o'') 4 (.own 0)), (6, .bool d'), (7, .int .i64 (IntKind.wrap .i64 ((i : Int) + 1)))] [] [(3, .cells [.str key, .int .i64 k, .int .i64 n, .str s])] (Sto.pushOwn Sto.empty (prv o'').length)) := fun d' o'' h => by
      rw [i64_succ hlt (by omega)]
      exact hL (i + 1, d', o'') h (by show l.length - (i + 1) < l.length - i; omega)
    have hdr := List.drop_eq_getElem_cons hlt
    have htk : l.take (i + 1) = l.take i ++ [l[i]] := by rw [List.take_add_one, List.getElem?_eq_getElem hlt]; rfl
    -- a list that has it already
    have more : d = true → PutI l p (i + 1) true (o ++ [l[i]]) := fun hd => by
      obtain ⟨t1, t2⟩ := ht hd
      refine ⟨hlt, by simp; omega, (fun h => by cases h), fun _ => ⟨?_, fun j hj hij => t2 j hj (by omega)⟩⟩
      rw [t1, hdr, List.append_assoc]; rfl
    refine brV_by (fun h => ?_) (fun h => ?_)
    · have h0 : 0 ≤ y := of_decide_eq_true h
      refine brV_by (fun hd => ?_) (fun hd => ?_)
      · have hd : d = false := by simpa using hd
        obtain ⟨f1, f2⟩ := hf hd
        have pa := putP_at l p i hlt f2 (by omega)
        refine gb_by (dt ⟨dt ⟨trivial, trivial, by omega, by omega⟩, trivial⟩) ?_
        rw [setOwn_e1, show (prv o).length + 1 = (prv (o ++ [p])).length by simp]
        have gt : ∀ j (h : j < l.length), i + 1 ≤ j → 0 < cmpK l[j].key p.key := fun j hj hij => by
          have h1 := incP_lt hinc i j hlt hj (by omega)
          have h2 := cmpK_swap l[i].key p.key
          have h3 := cmpK_le_lt (a := p.key) (by omega) h1
          have h4 := cmpK_swap p.key l[j].key
          omega
        refine toCut (half true (o ++ [p]) (by rw [f1]; simp; omega) (fun hy0 => ?_) (fun hy0 => ?_) _ fun o'' b h => nxt true o'' h)
        · refine ⟨hlt, by rw [f1]; simp; omega, (fun h => by cases h), fun _ => ⟨?_, fun j hj hij => gt j hj hij⟩⟩
          rw [pa, if_neg (by omega), f1, hdr]
          simp
        · refine ⟨hlt, by rw [f1]; simp; omega, (fun h => by cases h), fun _ => ⟨?_, fun j hj hij => gt j hj hij⟩⟩
          rw [pa, if_pos (by omega), f1]
          simp
      · have hd : d = true := by simpa using hd
        have hy0 : y ≠ 0 := by have := (ht hd).2 i hlt (Nat.le_refl _); omega
        subst hd
        exact toCut (half true o (by omega) (fun _ => more rfl) (fun h => absurd h hy0) _ fun o'' b h => nxt true o'' h)
    · have h0 : y < 0 := by have := of_decide_eq_false h; omega
      cases d with
      | true => have := (ht rfl).2 i hlt (Nat.le_refl _); omega
      | false =>
        obtain ⟨f1, f2⟩ := hf rfl
        refine toCut (half false o (by omega) (fun _ => ?_) (fun h => by omega) _ fun o'' b h => nxt false o'' h)
        refine ⟨hlt, by simp; omega, fun _ => ⟨by rw [f1, htk], fun j hj hji => ?_⟩, fun h => by cases h⟩
        rcases Nat.lt_or_ge j i with h9 | h9
        · exact f2 j hj h9
        · obtain rfl : j = i := by omega
          omega
  · have hge : i = l.length := by have := of_decide_eq_false h; omega
    refine leaveTo (toCut (Eq.mpr (putRF_r o key k n s d _) ?_))
    refine brV_by (fun hd => ?_) (fun hd => ?_)
    · have hd : d = false := by simpa using hd
      obtain ⟨f1, f2⟩ := hf hd
      refine gb_by (dt ⟨dt ⟨rfl, rfl, by omega, by omega⟩, rfl⟩) ?_
      rw [hap, f1, hge, List.take_length, putP_end l p fun j hj => f2 j hj (by omega)]
      exact Wk.ro _ _ _
    · have hd : d = true := by simpa using hd
      obtain ⟨t1, _⟩ := ht hd
      rw [t1, hge, List.drop_length, List.append_nil]
      exact Wk.ro _ _ _
theorem putR_ok : EntOk Try.prog putRE := by
  intro xs σ; simp only [putRE]; split
  · rename_i es s t key k n z
    intro hc
    simp only [Bool.and_eq_true, hold_eq] at hc
    obtain ⟨hc, h5, h6⟩ := hc
    obtain ⟨h1, h2, h3, h4⟩ := prsOk_of hc
    exact pcall_of (v := .slice _ 4 .ro) (.cons (wk_prv t h1 h2) (.refl _)) (putR_c _ key k n z h3 h4 h5 (Lt.lenT_of h6)) (by simp only [noOutL, AVal.noOut, prv_noOut, Bool.and_true]) (by simp only [noTokL, AVal.noTok, prv_noTok, Bool.and_true, Tag.below]) (by simp only [AVal.noOut, prv_noOut]) (by simp only [AVal.noTok, prv_noTok, Tag.below, Bool.and_true])
  · trivial
end Go.Proofs.Ytbghpjamahgegaa
end

section
set_option maxRecDepth 100000
set_option maxHeartbeats 0
set_option linter.unusedVariables false
namespace Go.Proofs.Ytbghpjamahgegaa
open Go.AL Go.Proofs
def isOvP (g : FuncId) : Bool := Nat.beq g 55
noncomputable def cSearch : Cfg := { keep := [0, 1, 2, 6, 7, 8, 9, 10, 11, 17, 31], cut := [(7, [0, 1, 2, 8, 9, 10], []), (16, [0, 1, 2, 8, 9], [])], orc := ofList [byE] }
noncomputable def cCloneP : Cfg := { keep := [0, 2, 4], cut := [], out := [7], wr := [7] }
noncomputable def cInsP : Cfg := { keep := [0, 1, 2, 6, 7, 8, 9, 16, 22, 31, 68], cut := [], out := [25, 40], ext := isOvP }
noncomputable def cInsPH : Cfg := { keep := [0, 1, 2, 6, 7, 8, 9, 16, 22, 31, 68], cut := [], out := [25, 40], wr := [25, 40], ext := isOvP }
noncomputable def cIdxS : Cfg := { keep := [0, 1, 4, 5, 7, 8, 9, 16], cut := [(5, [0, 1, 7, 8], [])] }
noncomputable def cSmall : Cfg := { keep := [0, 2, 3, 6, 10, 29], cut := [(9, [0, 3], [])] }
noncomputable def cNum : Cfg := { keep := [0, 1, 4], cut := [] }
noncomputable def cText : Cfg := { keep := [0, 1, 4], cut := [] }
noncomputable def cCopied : Cfg := { keep := [0, 2], cut := [] }
noncomputable def code_15_ : Code := (Try.f15.body).getD .skip
noncomputable def code_25_ : Code := (Try.f25.body).getD .skip
noncomputable def code_26_ : Code := (Try.f26.body).getD .skip
noncomputable def code_32_ : Code := (Try.f32.body).getD .skip
noncomputable def code_35_ : Code := (Try.f35.body).getD .skip
noncomputable def code_37_ : Code := (Try.f37.body).getD .skip
noncomputable def code_57_ : Code := (Try.f57.body).getD .skip
noncomputable def code_9_ : Code := (Try.f9.body).getD .skip
noncomputable def code_57_1_1 : Code := codeAt code_57_ [1, 1]
noncomputable def code_9_1_1_1 : Code := codeAt code_9_ [1, 1, 1]
noncomputable def code_35_1_1_1_1 : Code := codeAt code_35_ [1, 1, 1, 1]
noncomputable def code_57_1_0_1_0_0 : Code := codeAt code_57_ [1, 0, 1, 0, 0]
noncomputable def code_35_1_1_1_0_0_0 : Code := codeAt code_35_ [1, 1, 1, 0, 0, 0]
noncomputable def code_9_1_1_0_1_0_0 : Code := codeAt code_9_ [1, 1, 0, 1, 0, 0]
theorem search_r (l : List Pr) (key : Txt) (Q : AVal → Sto → Prop) : vc Try.prog cSearch code_35_ (endK Try.prog Try.f35.results.toList Q) (St.start Try.f35.ntmps [.slice (prv l) 4 .ro, .str key, .func (.func 36) [] []] (Sto.empty)) =
  (loopV (fun s => St.norm [] [0, 1, 2, 8, 9, 10] [] s) (vc Try.prog cSearch code_35_1_1_1_0_0_0) (blockK 0 (thenK (fun s => cutV (vc Try.prog cSearch code_35_1_1_1_1 (endK Try.prog (Array.toList (Go.Func.results Try.f35)) Q)) (St.norm [] [0, 1, 2, 8, 9] [] s)) (endK Try.prog (Array.toList (Go.Func.results Try.f35)) Q))) (St.mk 49 [(0, AVal.slice (prv l) 4 Tag.ro), (1, AVal.str key), (2, AVal.func (Go.Fn.func 36) [] []), (8, AVal.int IntKind.i64 (↑(List.length (prv l)) : Int)), (9, AVal.int IntKind.i64 (0 : Int)), (10, AVal.int IntKind.i64 (↑(List.length (prv l)) : Int))] [] [] Sto.empty)) := by kernel_rfl
theorem search_i (l : List Pr) (key : Txt) (Q : AVal → Sto → Prop) (ho : OrcOk Try.prog cSearch) (h : loopV (fun s => St.norm [] [0, 1, 2, 8, 9, 10] [] s) (vc Try.prog cSearch code_35_1_1_1_0_0_0) (blockK 0 (thenK (fun s => cutV (vc Try.prog cSearch code_35_1_1_1_1 (endK Try.prog (Array.toList (Go.Func.results Try.f35)) Q)) (St.norm [] [0, 1, 2, 8, 9] [] s)) (endK Try.prog (Array.toList (Go.Func.results Try.f35)) Q))) (St.mk 49 [(0, AVal.slice (prv l) 4 Tag.ro), (1, AVal.str key), (2, AVal.func (Go.Fn.func 36) [] []), (8, AVal.int IntKind.i64 (↑(List.length (prv l)) : Int)), (9, AVal.int IntKind.i64 (0 : Int)), (10, AVal.int IntKind.i64 (↑(List.length (prv l)) : Int))] [] [] Sto.empty)) : ACall Try.prog 35 [.slice (prv l) 4 .ro, .str key, .func (.func 36) [] []] (Sto.empty) Q :=
  ACall.intro hmix Try.func35 (c := code_35_) (by kernel_rfl) cSearch ho (Nat.le_of_ble_eq_true (by kernel_rfl)) (by rw [search_r]; exact h)
noncomputable def searchL_S (l : List Pr) (key : Txt) (n i j : Nat) : St := St.mk 49 [(0, .slice (prv l) 4 .ro), (1, .str key), (2, .func (.func 36) [] []), (8, .int .i64 (n : Int)), (9, .int .i64 (i : Int)), (10, .int .i64 (j : Int))] [] [] (Sto.empty)
noncomputable abbrev searchL_C : Code := code_35_1_1_1_0_0_0
theorem searchL_r (l : List Pr) (key : Txt) (n i j : Nat) (L : St → Prop) (K : Exit → St → Prop) : vc Try.prog cSearch code_35_1_1_1_0_0_0 (thenK (fun s => L (St.norm [] [0, 1, 2, 8, 9, 10] [] s)) K) (St.mk 49 [(0, .slice (prv l) 4 .ro), (1, .str key), (2, .func (.func 36) [] []), (8, .int .i64 (n : Int)), (9, .int .i64 (i : Int)), (10, .int .i64 (j : Int))] [] [] (Sto.empty)) =
  (brV (hold (decide ((↑i : Int) < (↑j : Int)))) true (gb (decide ((0 : Int) ≤ IntKind.wrap IntKind.i64 (Int.fdiv (IntKind.wrap IntKind.u64 (IntKind.wrap IntKind.i64 ((↑i : Int) + (↑j : Int)))) (2 : Int)) ∧ IntKind.wrap IntKind.i64 (Int.fdiv (IntKind.wrap IntKind.u64 (IntKind.wrap IntKind.i64 ((↑i : Int) + (↑j : Int)))) (2 : Int)) < (↑(List.length (prv l)) : Int))) (gb (decide (4 ≤ List.length (elemAt (prv l) (IntKind.wrap IntKind.i64 (Int.fdiv (IntKind.wrap IntKind.u64 (IntKind.wrap IntKind.i64 ((↑i : Int) + (↑j : Int)))) (2 : Int)))) ∧ 0 < 4) && (etaOk Sh.str (List.getD (elemAt (prv l) (IntKind.wrap IntKind.i64 (Int.fdiv (IntKind.wrap IntKind.u64 (IntKind.wrap IntKind.i64 ((↑i : Int) + (↑j : Int)))) (2 : Int)))) 0 AVal.undef) && (etaOk (Sh.int IntKind.i64) (List.getD (elemAt (prv l) (IntKind.wrap IntKind.i64 (Int.fdiv (IntKind.wrap IntKind.u64 (IntKind.wrap IntKind.i64 ((↑i : Int) + (↑j : Int)))) (2 : Int)))) 1 AVal.undef) && (etaOk (Sh.int IntKind.i64) (List.getD (elemAt (prv l) (IntKind.wrap IntKind.i64 (Int.fdiv (IntKind.wrap IntKind.u64 (IntKind.wrap IntKind.i64 ((↑i : Int) + (↑j : Int)))) (2 : Int)))) 2 AVal.undef) && (etaOk Sh.str (List.getD (elemAt (prv l) (IntKind.wrap IntKind.i64 (Int.fdiv (IntKind.wrap IntKind.u64 (IntKind.wrap IntKind.i64 ((↑i : Int) + (↑j : Int)))) (2 : Int)))) 3 AVal.undef) && true))))) (∀ (y : Int), y = cmpK (AVal.strOf (List.getD (elemAt (prv l) (IntKind.wrap IntKind.i64 (Int.fdiv (IntKind.wrap IntKind.u64 (IntKind.wrap IntKind.i64 ((↑i : Int) + (↑j : Int)))) (2 : Int)))) 0 AVal.undef)) key → gb (Lt.lenT (AVal.strOf (List.getD (elemAt (prv l) (IntKind.wrap IntKind.i64 (Int.fdiv (IntKind.wrap IntKind.u64 (IntKind.wrap IntKind.i64 ((↑i : Int) + (↑j : Int)))) (2 : Int)))) 0 AVal.undef)) && Lt.lenT key) (brV (hold (decide (y < (0 : Int)))) true (L (St.mk 49 [(0, AVal.slice (prv l) 4 Tag.ro), (1, AVal.str key), (2, AVal.func (Go.Fn.func 36) [] []), (8, AVal.int IntKind.i64 (↑n : Int)), (9, AVal.int IntKind.i64 (IntKind.wrap IntKind.i64 (IntKind.wrap IntKind.i64 (Int.fdiv (IntKind.wrap IntKind.u64 (IntKind.wrap IntKind.i64 ((↑i : Int) + (↑j : Int)))) (2 : Int)) + (1 : Int)))), (10, AVal.int IntKind.i64 (↑j : Int))] [] [] Sto.empty)) (L (St.mk 49 [(0, AVal.slice (prv l) 4 Tag.ro), (1, AVal.str key), (2, AVal.func (Go.Fn.func 36) [] []), (8, AVal.int IntKind.i64 (↑n : Int)), (9, AVal.int IntKind.i64 (↑i : Int)), (10, AVal.int IntKind.i64 (IntKind.wrap IntKind.i64 (Int.fdiv (IntKind.wrap IntKind.u64 (IntKind.wrap IntKind.i64 ((↑i : Int) + (↑j : Int)))) (2 : Int))))] [] [] Sto.empty)))))) (K (Exit.exit 0) (St.mk 49 [(0, AVal.slice (prv l) 4 Tag.ro), (1, AVal.str key), (2, AVal.func (Go.Fn.func 36) [] []), (8, AVal.int IntKind.i64 (↑n : Int)), (9, AVal.int IntKind.i64 (↑i : Int)), (10, AVal.int IntKind.i64 (↑j : Int)), (17, AVal.bool (hold (decide ((↑i : Int) < (↑j : Int)))))] [] [] Sto.empty))) := by kernel_rfl
noncomputable def searchF_S (l : List Pr) (key : Txt) (n i : Nat) : St := St.mk 49 [(0, .slice (prv l) 4 .ro), (1, .str key), (2, .func (.func 36) [] []), (8, .int .i64 (n : Int)), (9, .int .i64 (i : Int))] [] [] (Sto.empty)
noncomputable abbrev searchF_C : Code := code_35_1_1_1_1
theorem searchF_r (l : List Pr) (key : Txt) (n i : Nat) (Q : AVal → Sto → Prop) : vc Try.prog cSearch code_35_1_1_1_1 (endK Try.prog Try.f35.results.toList Q) (St.mk 49 [(0, .slice (prv l) 4 .ro), (1, .str key), (2, .func (.func 36) [] []), (8, .int .i64 (n : Int)), (9, .int .i64 (i : Int))] [] [] (Sto.empty)) =
  (brV (hold (decide ((↑i : Int) < (↑n : Int)))) true (gb (decide ((0 : Int) ≤ (↑i : Int) ∧ (↑i : Int) < (↑(List.length (prv l)) : Int))) (gb (decide (4 ≤ List.length (elemAt (prv l) (↑i : Int)) ∧ 0 < 4) && (etaOk Sh.str (List.getD (elemAt (prv l) (↑i : Int)) 0 AVal.undef) && (etaOk (Sh.int IntKind.i64) (List.getD (elemAt (prv l) (↑i : Int)) 1 AVal.undef) && (etaOk (Sh.int IntKind.i64) (List.getD (elemAt (prv l) (↑i : Int)) 2 AVal.undef) && (etaOk Sh.str (List.getD (elemAt (prv l) (↑i : Int)) 3 AVal.undef) && true))))) (∀ (y : Int), y = cmpK (AVal.strOf (List.getD (elemAt (prv l) (↑i : Int)) 0 AVal.undef)) key → gb (Lt.lenT (AVal.strOf (List.getD (elemAt (prv l) (↑i : Int)) 0 AVal.undef)) && Lt.lenT key) (Q (AVal.tuple [AVal.int IntKind.i64 (↑i : Int), AVal.bool (hold (y == (0 : Int)))]) Sto.empty)))) (Q (AVal.tuple [AVal.int IntKind.i64 (↑i : Int), AVal.bool false]) Sto.empty)) := by kernel_rfl
theorem cloneP_r (σ : Sto) (l : List Pr) (Q : AVal → Sto → Prop) : vc Try.prog cCloneP code_32_ (endK Try.prog Try.f32.results.toList Q) (St.start Try.f32.ntmps [.slice (prv l) 4 .ro] (σ)) =
  (∀ (b : Bool), (b = true → List.isEmpty (prv l) = true) → (false = true → b = true) → brV (b == true) true (Q (AVal.slice [] 0 Tag.nil) σ) (brV (hold (decide (List.length (prv l) = 0))) true (Q (AVal.slice [] 4 Tag.full) σ) (gb (hold (decide ((0 + List.length (prv l)) * 48 ≤ 140737488355328 ∧ 0 + List.length (prv l) ≤ 9223372036854775807))) (∀ (k : Nat), 0 + List.length (prv l) + k ≤ 9223372036854775807 → gb (decide (AObj.noLoc (AObj.cells (flat (prv l) ++ List.replicate (k * 4) AVal.undef)) = true ∧ 7 < 8)) (Q (AVal.arr (Oid.out (Sto.nobj σ)) 0 (0 + List.length (prv l)) (0 + List.length (prv l) + k)) (Sto.push σ (AObj.cells (flat (prv l) ++ List.replicate (k * 4) AVal.undef)))))))) := by kernel_rfl
theorem cloneP_i (σ : Sto) (l : List Pr) (Q : AVal → Sto → Prop) (ho : OrcOk Try.prog cCloneP) (h : ∀ (b : Bool), (b = true → List.isEmpty (prv l) = true) → (false = true → b = true) → brV (b == true) true (Q (AVal.slice [] 0 Tag.nil) σ) (brV (hold (decide (List.length (prv l) = 0))) true (Q (AVal.slice [] 4 Tag.full) σ) (gb (hold (decide ((0 + List.length (prv l)) * 48 ≤ 140737488355328 ∧ 0 + List.length (prv l) ≤ 9223372036854775807))) (∀ (k : Nat), 0 + List.length (prv l) + k ≤ 9223372036854775807 → gb (decide (AObj.noLoc (AObj.cells (flat (prv l) ++ List.replicate (k * 4) AVal.undef)) = true ∧ 7 < 8)) (Q (AVal.arr (Oid.out (Sto.nobj σ)) 0 (0 + List.length (prv l)) (0 + List.length (prv l) + k)) (Sto.push σ (AObj.cells (flat (prv l) ++ List.replicate (k * 4) AVal.undef)))))))) : ACall Try.prog 32 [.slice (prv l) 4 .ro] (σ) Q :=
  ACall.intro hmix Try.func32 (c := code_32_) (by kernel_rfl) cCloneP ho (Nat.le_of_ble_eq_true (by kernel_rfl)) (by rw [cloneP_r]; exact h)
theorem insP_r (cs : List AVal) (n c i : Nat) (p : Pr) (Q : AVal → Sto → Prop) : vc Try.prog cInsP code_37_ (endK Try.prog Try.f37.results.toList Q) (St.start Try.f37.ntmps [.arr (.out 0) 0 n c, .int .i64 (i : Int), .slice [p.a] 4 .ro] (Sto.one (.cells cs))) =
  (gb (decide ((0 : Int) ≤ (↑i : Int) ∧ (↑i : Int) ≤ (↑n : Int) ∧ (↑n : Int) ≤ (↑c : Int))) (brV (hold false) true (Q (AVal.arr (Oid.out 0) 0 n c) (Sto.one (AObj.cells cs))) (brV (hold ((↑i : Int) == (↑n : Int))) true (gb (decide (0 + n * 4 ≤ List.length cs)) (brV (hold (decide (n + 1 ≤ c))) true (gb (decide (decide (true = true ∧ n + 1 ≤ c ∧ 0 + (n + 1) * 4 ≤ List.length cs ∧ (Oid.isOut (Oid.out 0) = true → noLocL (flat [AVal.agg [AVal.str (Pr.key p), AVal.int IntKind.i64 (Vl.k (Pr.v p)), AVal.int IntKind.i64 (Vl.n (Pr.v p)), AVal.str (Vl.s (Pr.v p))]]) = true)) = true ∧ true = true)) (Q (AVal.arr (Oid.out 0) 0 (n + 1) c) (Sto.set (Sto.one (AObj.cells cs)) 0 (AObj.cells (setRange cs (0 + n * 4) [AVal.str (Pr.key p), AVal.int IntKind.i64 (Vl.k (Pr.v p)), AVal.int IntKind.i64 (Vl.n (Pr.v p)), AVal.str (Vl.s (Pr.v p))]))))) (gb (hold (decide ((n + 1) * 48 ≤ 140737488355328 ∧ n + 1 ≤ 9223372036854775807))) (∀ (k : Nat), n + 1 + k ≤ 9223372036854775807 → gb (decide (AObj.noLoc (AObj.cells (List.take (n * 4) cs ++ [AVal.str (Pr.key p), AVal.int IntKind.i64 (Vl.k (Pr.v p)), AVal.int IntKind.i64 (Vl.n (Pr.v p)), AVal.str (Vl.s (Pr.v p))] ++ List.replicate (k * 4) AVal.undef)) = true ∧ 25 < 95)) (Q (AVal.arr (Oid.out 1) 0 (n + 1) (n + 1 + k)) (Sto.push (Sto.one (AObj.cells cs)) (AObj.cells (List.take (n * 4) cs ++ [AVal.str (Pr.key p), AVal.int IntKind.i64 (Vl.k (Pr.v p)), AVal.int IntKind.i64 (Vl.n (Pr.v p)), AVal.str (Vl.s (Pr.v p))] ++ List.replicate (k * 4) AVal.undef)))))))) (brV (hold (decide ((↑c : Int) < IntKind.wrap IntKind.i64 ((↑n : Int) + (↑(1 : Nat) : Int))))) true (gb (decide ((0 : Int) ≤ (0 : Int) ∧ (0 : Int) ≤ (↑i : Int) ∧ (↑i : Int) ≤ (↑c : Int))) (gb (hold (decide ((1 : Int) ≤ IntKind.wrap IntKind.i64 (IntKind.wrap IntKind.i64 ((↑n : Int) + (↑(1 : Nat) : Int)) - (↑i : Int)) ∧ IntKind.wrap IntKind.i64 (IntKind.wrap IntKind.i64 ((↑n : Int) + (↑(1 : Nat) : Int)) - (↑i : Int)) ≤ (1000000000000 : Int) ∧ c - 0 < Int.toNat (↑i : Int) - 0 + Int.toNat (IntKind.wrap IntKind.i64 (IntKind.wrap IntKind.i64 ((↑n : Int) + (↑(1 : Nat) : Int)) - (↑i : Int))))) && decide (0 + (Int.toNat (↑i : Int) - 0) * 4 ≤ List.length cs)) (gb (hold (decide ((Int.toNat (↑i : Int) - 0 + Int.toNat (IntKind.wrap IntKind.i64 (IntKind.wrap IntKind.i64 ((↑n : Int) + (↑(1 : Nat) : Int)) - (↑i : Int)))) * 48 ≤ 140737488355328 ∧ Int.toNat (↑i : Int) - 0 + Int.toNat (IntKind.wrap IntKind.i64 (IntKind.wrap IntKind.i64 ((↑n : Int) + (↑(1 : Nat) : Int)) - (↑i : Int))) ≤ 9223372036854775807))) (∀ (k : Nat), Int.toNat (↑i : Int) - 0 + Int.toNat (IntKind.wrap IntKind.i64 (IntKind.wrap IntKind.i64 ((↑n : Int) + (↑(1 : Nat) : Int)) - (↑i : Int))) + k ≤ 9223372036854775807 → gb (decide (AObj.noLoc (AObj.cells (List.take ((Int.toNat (↑i : Int) - 0) * 4) cs ++ flat (List.replicate (Int.toNat (IntKind.wrap IntKind.i64 (IntKind.wrap IntKind.i64 ((↑n : Int) + (↑(1 : Nat) : Int)) - (↑i : Int)))) (AVal.agg [AVal.str [], AVal.int IntKind.i64 (0 : Int), AVal.int IntKind.i64 (0 : Int), AVal.str []])) ++ List.replicate (k * 4) AVal.undef)) = true ∧ 40 < 95)) (gb (decide ((0 : Int) ≤ (↑i : Int) ∧ (↑i : Int) ≤ (↑(Int.toNat (↑i : Int) - 0 + Int.toNat (IntKind.wrap IntKind.i64 (IntKind.wrap IntKind.i64 ((↑n : Int) + (↑(1 : Nat) : Int)) - (↑i : Int)))) : Int) ∧ (↑(Int.toNat (↑i : Int) - 0 + Int.toNat (IntKind.wrap IntKind.i64 (IntKind.wrap IntKind.i64 ((↑n : Int) + (↑(1 : Nat) : Int)) - (↑i : Int)))) : Int) ≤ (↑(Int.toNat (↑i : Int) - 0 + Int.toNat (IntKind.wrap IntKind.i64 (IntKind.wrap IntKind.i64 ((↑n : Int) + (↑(1 : Nat) : Int)) - (↑i : Int))) + k) : Int))) (gb (decide (decide (true = true ∧ 0 + Int.toNat (↑i : Int) * 4 + Min.min 1 (Int.toNat (↑(Int.toNat (↑i : Int) - 0 + Int.toNat (IntKind.wrap IntKind.i64 (IntKind.wrap IntKind.i64 ((↑n : Int) + (↑(1 : Nat) : Int)) - (↑i : Int)))) : Int) - Int.toNat (↑i : Int)) * 4 ≤ List.length (List.take ((Int.toNat (↑i : Int) - 0) * 4) cs ++ flat (List.replicate (Int.toNat (IntKind.wrap IntKind.i64 (IntKind.wrap IntKind.i64 ((↑n : Int) + (↑(1 : Nat) : Int)) - (↑i : Int)))) (AVal.agg [AVal.str [], AVal.int IntKind.i64 (0 : Int), AVal.int IntKind.i64 (0 : Int), AVal.str []])) ++ List.replicate (k * 4) AVal.undef) ∧ (Oid.isOut (Oid.out 1) = true → noLocL (List.take (Min.min (List.length [AVal.agg [AVal.str (Pr.key p), AVal.int IntKind.i64 (Vl.k (Pr.v p)), AVal.int IntKind.i64 (Vl.n (Pr.v p)), AVal.str (Vl.s (Pr.v p))]]) (Int.toNat (↑(Int.toNat (↑i : Int) - 0 + Int.toNat (IntKind.wrap IntKind.i64 (IntKind.wrap IntKind.i64 ((↑n : Int) + (↑(1 : Nat) : Int)) - (↑i : Int)))) : Int) - Int.toNat (↑i : Int)) * Go.TypeInfo.size (Go.Tables.types (Go.Program.toTables Try.prog))[37]) (flat [AVal.agg [AVal.str (Pr.key p), AVal.int IntKind.i64 (Vl.k (Pr.v p)), AVal.int IntKind.i64 (Vl.n (Pr.v p)), AVal.str (Vl.s (Pr.v p))]])) = true)) = true ∧ true = true)) (gb (decide ((0 : Int) ≤ IntKind.wrap IntKind.i64 ((↑i : Int) + (↑(1 : Nat) : Int)) ∧ IntKind.wrap IntKind.i64 ((↑i : Int) + (↑(1 : Nat) : Int)) ≤ (↑(Int.toNat (↑i : Int) - 0 + Int.toNat (IntKind.wrap IntKind.i64 (IntKind.wrap IntKind.i64 ((↑n : Int) + (↑(1 : Nat) : Int)) - (↑i : Int)))) : Int) ∧ (↑(Int.toNat (↑i : Int) - 0 + Int.toNat (IntKind.wrap IntKind.i64 (IntKind.wrap IntKind.i64 ((↑n : Int) + (↑(1 : Nat) : Int)) - (↑i : Int)))) : Int) ≤ (↑(Int.toNat (↑i : Int) - 0 + Int.toNat (IntKind.wrap IntKind.i64 (IntKind.wrap IntKind.i64 ((↑n : Int) + (↑(1 : Nat) : Int)) - (↑i : Int))) + k) : Int))) (gb (decide ((0 : Int) ≤ (↑i : Int) ∧ (↑i : Int) ≤ (↑n : Int) ∧ (↑n : Int) ≤ (↑c : Int))) (gb (decide (decide (decide (0 + Int.toNat (↑i : Int) * 4 + (Int.toNat (↑n : Int) - Int.toNat (↑i : Int)) * 4 ≤ List.length cs) = true ∧ 0 + Int.toNat (IntKind.wrap IntKind.i64 ((↑i : Int) + (↑(1 : Nat) : Int))) * 4 + Min.min (Int.toNat (↑n : Int) - Int.toNat (↑i : Int)) (Int.toNat (↑(Int.toNat (↑i : Int) - 0 + Int.toNat (IntKind.wrap IntKind.i64 (IntKind.wrap IntKind.i64 ((↑n : Int) + (↑(1 : Nat) : Int)) - (↑i : Int)))) : Int) - Int.toNat (IntKind.wrap IntKind.i64 ((↑i : Int) + (↑(1 : Nat) : Int)))) * 4 ≤ List.length (setRange (List.take ((Int.toNat (↑i : Int) - 0) * 4) cs ++ flat (List.replicate (Int.toNat (IntKind.wrap IntKind.i64 (IntKind.wrap IntKind.i64 ((↑n : Int) + (↑(1 : Nat) : Int)) - (↑i : Int)))) (AVal.agg [AVal.str [], AVal.int IntKind.i64 (0 : Int), AVal.int IntKind.i64 (0 : Int), AVal.str []])) ++ List.replicate (k * 4) AVal.undef) (0 + Int.toNat (↑i : Int) * 4) (List.take (Min.min 1 (Int.toNat (↑(Int.toNat (↑i : Int) - 0 + Int.toNat (IntKind.wrap IntKind.i64 (IntKind.wrap IntKind.i64 ((↑n : Int) + (↑(1 : Nat) : Int)) - (↑i : Int)))) : Int) - Int.toNat (↑i : Int)) * 4) [AVal.str (Pr.key p), AVal.int IntKind.i64 (Vl.k (Pr.v p)), AVal.int IntKind.i64 (Vl.n (Pr.v p)), AVal.str (Vl.s (Pr.v p))])) ∧ (Oid.isOut (Oid.out 1) = true → noLocL (List.take (Min.min (Int.toNat (↑n : Int) - Int.toNat (↑i : Int)) (Int.toNat (↑(Int.toNat (↑i : Int) - 0 + Int.toNat (IntKind.wrap IntKind.i64 (IntKind.wrap IntKind.i64 ((↑n : Int) + (↑(1 : Nat) : Int)) - (↑i : Int)))) : Int) - Int.toNat (IntKind.wrap IntKind.i64 ((↑i : Int) + (↑(1 : Nat) : Int)))) * Go.TypeInfo.size (Go.Tables.types (Go.Program.toTables Try.prog))[37]) (List.take ((Int.toNat (↑n : Int) - Int.toNat (↑i : Int)) * Go.TypeInfo.size (Go.Tables.types (Go.Program.toTables Try.prog))[37]) (List.drop (0 + Int.toNat (↑i : Int) * 4) cs))) = true)) = true ∧ true = true)) (Q (AVal.arr (Oid.out 1) 0 (Int.toNat (↑i : Int) - 0 + Int.toNat (IntKind.wrap IntKind.i64 (IntKind.wrap IntKind.i64 ((↑n : Int) + (↑(1 : Nat) : Int)) - (↑i : Int)))) (Int.toNat (↑i : Int) - 0 + Int.toNat (IntKind.wrap IntKind.i64 (IntKind.wrap IntKind.i64 ((↑n : Int) + (↑(1 : Nat) : Int)) - (↑i : Int))) + k)) (Sto.set (Sto.set (Sto.push (Sto.one (AObj.cells cs)) (AObj.cells (List.take ((Int.toNat (↑i : Int) - 0) * 4) cs ++ flat (List.replicate (Int.toNat (IntKind.wrap IntKind.i64 (IntKind.wrap IntKind.i64 ((↑n : Int) + (↑(1 : Nat) : Int)) - (↑i : Int)))) (AVal.agg [AVal.str [], AVal.int IntKind.i64 (0 : Int), AVal.int IntKind.i64 (0 : Int), AVal.str []])) ++ List.replicate (k * 4) AVal.undef))) 1 (AObj.cells (setRange (List.take ((Int.toNat (↑i : Int) - 0) * 4) cs ++ flat (List.replicate (Int.toNat (IntKind.wrap IntKind.i64 (IntKind.wrap IntKind.i64 ((↑n : Int) + (↑(1 : Nat) : Int)) - (↑i : Int)))) (AVal.agg [AVal.str [], AVal.int IntKind.i64 (0 : Int), AVal.int IntKind.i64 (0 : Int), AVal.str []])) ++ List.replicate (k * 4) AVal.undef) (0 + Int.toNat (↑i : Int) * 4) (List.take (Min.min 1 (Int.toNat (↑(Int.toNat (↑i : Int) - 0 + Int.toNat (IntKind.wrap IntKind.i64 (IntKind.wrap IntKind.i64 ((↑n : Int) + (↑(1 : Nat) : Int)) - (↑i : Int)))) : Int) - Int.toNat (↑i : Int)) * 4) [AVal.str (Pr.key p), AVal.int IntKind.i64 (Vl.k (Pr.v p)), AVal.int IntKind.i64 (Vl.n (Pr.v p)), AVal.str (Vl.s (Pr.v p))])))) 1 (AObj.cells (setRange (setRange (List.take ((Int.toNat (↑i : Int) - 0) * 4) cs ++ flat (List.replicate (Int.toNat (IntKind.wrap IntKind.i64 (IntKind.wrap IntKind.i64 ((↑n : Int) + (↑(1 : Nat) : Int)) - (↑i : Int)))) (AVal.agg [AVal.str [], AVal.int IntKind.i64 (0 : Int), AVal.int IntKind.i64 (0 : Int), AVal.str []])) ++ List.replicate (k * 4) AVal.undef) (0 + Int.toNat (↑i : Int) * 4) (List.take (Min.min 1 (Int.toNat (↑(Int.toNat (↑i : Int) - 0 + Int.toNat (IntKind.wrap IntKind.i64 (IntKind.wrap IntKind.i64 ((↑n : Int) + (↑(1 : Nat) : Int)) - (↑i : Int)))) : Int) - Int.toNat (↑i : Int)) * 4) [AVal.str (Pr.key p), AVal.int IntKind.i64 (Vl.k (Pr.v p)), AVal.int IntKind.i64 (Vl.n (Pr.v p)), AVal.str (Vl.s (Pr.v p))])) (0 + Int.toNat (IntKind.wrap IntKind.i64 ((↑i : Int) + (↑(1 : Nat) : Int))) * 4) (List.take (Min.min (Int.toNat (↑n : Int) - Int.toNat (↑i : Int)) (Int.toNat (↑(Int.toNat (↑i : Int) - 0 + Int.toNat (IntKind.wrap IntKind.i64 (IntKind.wrap IntKind.i64 ((↑n : Int) + (↑(1 : Nat) : Int)) - (↑i : Int)))) : Int) - Int.toNat (IntKind.wrap IntKind.i64 ((↑i : Int) + (↑(1 : Nat) : Int)))) * 4) (List.take ((Int.toNat (↑n : Int) - Int.toNat (↑i : Int)) * 4) (List.drop (0 + Int.toNat (↑i : Int) * 4) cs)))))))))))))))) (gb (decide ((0 : Int) ≤ (0 : Int) ∧ (0 : Int) ≤ IntKind.wrap IntKind.i64 ((↑n : Int) + (↑(1 : Nat) : Int)) ∧ IntKind.wrap IntKind.i64 ((↑n : Int) + (↑(1 : Nat) : Int)) ≤ (↑c : Int))) (gb (decide ((0 : Int) ≤ IntKind.wrap IntKind.i64 ((↑i : Int) + (↑(1 : Nat) : Int)) ∧ IntKind.wrap IntKind.i64 ((↑i : Int) + (↑(1 : Nat) : Int)) ≤ (↑(Int.toNat (IntKind.wrap IntKind.i64 ((↑n : Int) + (↑(1 : Nat) : Int))) - 0) : Int) ∧ (↑(Int.toNat (IntKind.wrap IntKind.i64 ((↑n : Int) + (↑(1 : Nat) : Int))) - 0) : Int) ≤ (↑(c - 0) : Int))) (gb (decide (0 < 4 ∧ 0 + Int.toNat (IntKind.wrap IntKind.i64 ((↑i : Int) + (↑(1 : Nat) : Int))) * 4 + (Int.toNat (↑(Int.toNat (IntKind.wrap IntKind.i64 ((↑n : Int) + (↑(1 : Nat) : Int))) - 0) : Int) - Int.toNat (IntKind.wrap IntKind.i64 ((↑i : Int) + (↑(1 : Nat) : Int)))) ≤ List.length cs)) (gb (decide ((0 : Int) ≤ IntKind.wrap IntKind.i64 ((↑i : Int) + (↑(1 : Nat) : Int)) ∧ IntKind.wrap IntKind.i64 ((↑i : Int) + (↑(1 : Nat) : Int)) ≤ (↑(Int.toNat (IntKind.wrap IntKind.i64 ((↑n : Int) + (↑(1 : Nat) : Int))) - 0) : Int) ∧ (↑(Int.toNat (IntKind.wrap IntKind.i64 ((↑n : Int) + (↑(1 : Nat) : Int))) - 0) : Int) ≤ (↑(c - 0) : Int))) (gb (decide ((0 : Int) ≤ (↑i : Int) ∧ (↑i : Int) ≤ (↑(Int.toNat (IntKind.wrap IntKind.i64 ((↑n : Int) + (↑(1 : Nat) : Int))) - 0) : Int) ∧ (↑(Int.toNat (IntKind.wrap IntKind.i64 ((↑n : Int) + (↑(1 : Nat) : Int))) - 0) : Int) ≤ (↑(c - 0) : Int))) (gb (decide (decide (decide (0 + Int.toNat (↑i : Int) * 4 + (Int.toNat (↑(Int.toNat (IntKind.wrap IntKind.i64 ((↑n : Int) + (↑(1 : Nat) : Int))) - 0) : Int) - Int.toNat (↑i : Int)) * 4 ≤ List.length cs) = true ∧ 0 + Int.toNat (IntKind.wrap IntKind.i64 ((↑i : Int) + (↑(1 : Nat) : Int))) * 4 + Min.min (Int.toNat (↑(Int.toNat (IntKind.wrap IntKind.i64 ((↑n : Int) + (↑(1 : Nat) : Int))) - 0) : Int) - Int.toNat (↑i : Int)) (Int.toNat (↑(Int.toNat (IntKind.wrap IntKind.i64 ((↑n : Int) + (↑(1 : Nat) : Int))) - 0) : Int) - Int.toNat (IntKind.wrap IntKind.i64 ((↑i : Int) + (↑(1 : Nat) : Int)))) * 4 ≤ List.length cs ∧ (Oid.isOut (Oid.out 0) = true → noLocL (List.take (Min.min (Int.toNat (↑(Int.toNat (IntKind.wrap IntKind.i64 ((↑n : Int) + (↑(1 : Nat) : Int))) - 0) : Int) - Int.toNat (↑i : Int)) (Int.toNat (↑(Int.toNat (IntKind.wrap IntKind.i64 ((↑n : Int) + (↑(1 : Nat) : Int))) - 0) : Int) - Int.toNat (IntKind.wrap IntKind.i64 ((↑i : Int) + (↑(1 : Nat) : Int)))) * Go.TypeInfo.size (Go.Tables.types (Go.Program.toTables Try.prog))[37]) (List.take ((Int.toNat (↑(Int.toNat (IntKind.wrap IntKind.i64 ((↑n : Int) + (↑(1 : Nat) : Int))) - 0) : Int) - Int.toNat (↑i : Int)) * Go.TypeInfo.size (Go.Tables.types (Go.Program.toTables Try.prog))[37]) (List.drop (0 + Int.toNat (↑i : Int) * 4) cs))) = true)) = true ∧ true = true)) (gb (decide ((0 : Int) ≤ (↑i : Int) ∧ (↑i : Int) ≤ (↑(Int.toNat (IntKind.wrap IntKind.i64 ((↑n : Int) + (↑(1 : Nat) : Int))) - 0) : Int) ∧ (↑(Int.toNat (IntKind.wrap IntKind.i64 ((↑n : Int) + (↑(1 : Nat) : Int))) - 0) : Int) ≤ (↑(c - 0) : Int))) (gb (decide (decide (true = true ∧ 0 + Int.toNat (↑i : Int) * 4 + Min.min 1 (Int.toNat (↑(Int.toNat (IntKind.wrap IntKind.i64 ((↑n : Int) + (↑(1 : Nat) : Int))) - 0) : Int) - Int.toNat (↑i : Int)) * 4 ≤ List.length (setRange cs (0 + Int.toNat (IntKind.wrap IntKind.i64 ((↑i : Int) + (↑(1 : Nat) : Int))) * 4) (List.take (Min.min (Int.toNat (↑(Int.toNat (IntKind.wrap IntKind.i64 ((↑n : Int) + (↑(1 : Nat) : Int))) - 0) : Int) - Int.toNat (↑i : Int)) (Int.toNat (↑(Int.toNat (IntKind.wrap IntKind.i64 ((↑n : Int) + (↑(1 : Nat) : Int))) - 0) : Int) - Int.toNat (IntKind.wrap IntKind.i64 ((↑i : Int) + (↑(1 : Nat) : Int)))) * 4) (List.take ((Int.toNat (↑(Int.toNat (IntKind.wrap IntKind.i64 ((↑n : Int) + (↑(1 : Nat) : Int))) - 0) : Int) - Int.toNat (↑i : Int)) * 4) (List.drop (0 + Int.toNat (↑i : Int) * 4) cs)))) ∧ (Oid.isOut (Oid.out 0) = true → noLocL (List.take (Min.min (List.length [AVal.agg [AVal.str (Pr.key p), AVal.int IntKind.i64 (Vl.k (Pr.v p)), AVal.int IntKind.i64 (Vl.n (Pr.v p)), AVal.str (Vl.s (Pr.v p))]]) (Int.toNat (↑(Int.toNat (IntKind.wrap IntKind.i64 ((↑n : Int) + (↑(1 : Nat) : Int))) - 0) : Int) - Int.toNat (↑i : Int)) * Go.TypeInfo.size (Go.Tables.types (Go.Program.toTables Try.prog))[37]) (flat [AVal.agg [AVal.str (Pr.key p), AVal.int IntKind.i64 (Vl.k (Pr.v p)), AVal.int IntKind.i64 (Vl.n (Pr.v p)), AVal.str (Vl.s (Pr.v p))]])) = true)) = true ∧ true = true)) (Q (AVal.arr (Oid.out 0) 0 (Int.toNat (IntKind.wrap IntKind.i64 ((↑n : Int) + (↑(1 : Nat) : Int))) - 0) (c - 0)) (Sto.set (Sto.set (Sto.one (AObj.cells cs)) 0 (AObj.cells (setRange cs (0 + Int.toNat (IntKind.wrap IntKind.i64 ((↑i : Int) + (↑(1 : Nat) : Int))) * 4) (List.take (Min.min (Int.toNat (↑(Int.toNat (IntKind.wrap IntKind.i64 ((↑n : Int) + (↑(1 : Nat) : Int))) - 0) : Int) - Int.toNat (↑i : Int)) (Int.toNat (↑(Int.toNat (IntKind.wrap IntKind.i64 ((↑n : Int) + (↑(1 : Nat) : Int))) - 0) : Int) - Int.toNat (IntKind.wrap IntKind.i64 ((↑i : Int) + (↑(1 : Nat) : Int)))) * 4) (List.take ((Int.toNat (↑(Int.toNat (IntKind.wrap IntKind.i64 ((↑n : Int) + (↑(1 : Nat) : Int))) - 0) : Int) - Int.toNat (↑i : Int)) * 4) (List.drop (0 + Int.toNat (↑i : Int) * 4) cs)))))) 0 (AObj.cells (setRange (setRange cs (0 + Int.toNat (IntKind.wrap IntKind.i64 ((↑i : Int) + (↑(1 : Nat) : Int))) * 4) (List.take (Min.min (Int.toNat (↑(Int.toNat (IntKind.wrap IntKind.i64 ((↑n : Int) + (↑(1 : Nat) : Int))) - 0) : Int) - Int.toNat (↑i : Int)) (Int.toNat (↑(Int.toNat (IntKind.wrap IntKind.i64 ((↑n : Int) + (↑(1 : Nat) : Int))) - 0) : Int) - Int.toNat (IntKind.wrap IntKind.i64 ((↑i : Int) + (↑(1 : Nat) : Int)))) * 4) (List.take ((Int.toNat (↑(Int.toNat (IntKind.wrap IntKind.i64 ((↑n : Int) + (↑(1 : Nat) : Int))) - 0) : Int) - Int.toNat (↑i : Int)) * 4) (List.drop (0 + Int.toNat (↑i : Int) * 4) cs)))) (0 + Int.toNat (↑i : Int) * 4) (List.take (Min.min 1 (Int.toNat (↑(Int.toNat (IntKind.wrap IntKind.i64 ((↑n : Int) + (↑(1 : Nat) : Int))) - 0) : Int) - Int.toNat (↑i : Int)) * 4) [AVal.str (Pr.key p), AVal.int IntKind.i64 (Vl.k (Pr.v p)), AVal.int IntKind.i64 (Vl.n (Pr.v p)), AVal.str (Vl.s (Pr.v p))]))))))))))))))))) := by kernel_rfl
theorem insP_i (cs : List AVal) (n c i : Nat) (p : Pr) (Q : AVal → Sto → Prop) (ho : OrcOk Try.prog cInsP) (h : gb (decide ((0 : Int) ≤ (↑i : Int) ∧ (↑i : Int) ≤ (↑n : Int) ∧ (↑n : Int) ≤ (↑c : Int))) (brV (hold false) true (Q (AVal.arr (Oid.out 0) 0 n c) (Sto.one (AObj.cells cs))) (brV (hold ((↑i : Int) == (↑n : Int))) true (gb (decide (0 + n * 4 ≤ List.length cs)) (brV (hold (decide (n + 1 ≤ c))) true (gb (decide (decide (true = true ∧ n + 1 ≤ c ∧ 0 + (n + 1) * 4 ≤ List.length cs ∧ (Oid.isOut (Oid.out 0) = true → noLocL (flat [AVal.agg [AVal.str (Pr.key p), AVal.int IntKind.i64 (Vl.k (Pr.v p)), AVal.int IntKind.i64 (Vl.n (Pr.v p)), AVal.str (Vl.s (Pr.v p))]]) = true)) = true ∧ true = true)) (Q (AVal.arr (Oid.out 0) 0 (n + 1) c) (Sto.set (Sto.one (AObj.cells cs)) 0 (AObj.cells (setRange cs (0 + n * 4) [AVal.str (Pr.key p), AVal.int IntKind.i64 (Vl.k (Pr.v p)), AVal.int IntKind.i64 (Vl.n (Pr.v p)), AVal.str (Vl.s (Pr.v p))]))))) (gb (hold (decide ((n + 1) * 48 ≤ 140737488355328 ∧ n + 1 ≤ 9223372036854775807))) (∀ (k : Nat), n + 1 + k ≤ 9223372036854775807 → gb (decide (AObj.noLoc (AObj.cells (List.take (n * 4) cs ++ [AVal.str (Pr.key p), AVal.int IntKind.i64 (Vl.k (Pr.v p)), AVal.int IntKind.i64 (Vl.n (Pr.v p)), AVal.str (Vl.s (Pr.v p))] ++ List.replicate (k * 4) AVal.undef)) = true ∧ 25 < 95)) (Q (AVal.arr (Oid.out 1) 0 (n + 1) (n + 1 + k)) (Sto.push (Sto.one (AObj.cells cs)) (AObj.cells (List.take (n * 4) cs ++ [AVal.str (Pr.key p), AVal.int IntKind.i64 (Vl.k (Pr.v p)), AVal.int IntKind.i64 (Vl.n (Pr.v p)), AVal.str (Vl.s (Pr.v p))] ++ List.replicate (k * 4) AVal.undef)))))))) (brV (hold (decide ((↑c : Int) < IntKind.wrap IntKind.i64 ((↑n : Int) + (↑(1 : Nat) : Int))))) true (gb (decide ((0 : Int) ≤ (0 : Int) ∧ (0 : Int) ≤ (↑i : Int) ∧ (↑i : Int) ≤ (↑c : Int))) (gb (hold (decide ((1 : Int) ≤ IntKind.wrap IntKind.i64 (IntKind.wrap IntKind.i64 ((↑n : Int) + (↑(1 : Nat) : Int)) - (↑i : Int)) ∧ IntKind.wrap IntKind.i64 (IntKind.wrap IntKind.i64 ((↑n : Int) + (↑(1 : Nat) : Int)) - (↑i : Int)) ≤ (1000000000000 : Int) ∧ c - 0 < Int.toNat (↑i : Int) - 0 + Int.toNat (IntKind.wrap IntKind.i64 (IntKind.wrap IntKind.i64 ((↑n : Int) + (↑(1 : Nat) : Int)) - (↑i : Int))))) && decide (0 + (Int.toNat (↑i : Int) - 0) * 4 ≤ List.length cs)) (gb (hold (decide ((Int.toNat (↑i : Int) - 0 + Int.toNat (IntKind.wrap IntKind.i64 (IntKind.wrap IntKind.i64 ((↑n : Int) + (↑(1 : Nat) : Int)) - (↑i : Int)))) * 48 ≤ 140737488355328 ∧ Int.toNat (↑i : Int) - 0 + Int.toNat (IntKind.wrap IntKind.i64 (IntKind.wrap IntKind.i64 ((↑n : Int) + (↑(1 : Nat) : Int)) - (↑i : Int))) ≤ 9223372036854775807))) (∀ (k : Nat), Int.toNat (↑i : Int) - 0 + Int.toNat (IntKind.wrap IntKind.i64 (IntKind.wrap IntKind.i64 ((↑n : Int) + (↑(1 : Nat) : Int)) - (↑i : Int))) + k ≤ 9223372036854775807 → gb (decide (AObj.noLoc (AObj.cells (List.take ((Int.toNat (↑i : Int) - 0) * 4) cs ++ flat (List.replicate (Int.toNat (IntKind.wrap IntKind.i64 (IntKind.wrap IntKind.i64 ((↑n : Int) + (↑(1 : Nat) : Int)) - (↑i : Int)))) (AVal.agg [AVal.str [], AVal.int IntKind.i64 (0 : Int), AVal.int IntKind.i64 (0 : Int), AVal.str []])) ++ List.replicate (k * 4) AVal.undef)) = true ∧ 40 < 95)) (gb (decide ((0 : Int) ≤ (↑i : Int) ∧ (↑i : Int) ≤ (↑(Int.toNat (↑i : Int) - 0 + Int.toNat (IntKind.wrap IntKind.i64 (IntKind.wrap IntKind.i64 ((↑n : Int) + (↑(1 : Nat) : Int)) - (↑i : Int)))) : Int) ∧ (↑(Int.toNat (↑i : Int) - 0 + Int.toNat (IntKind.wrap IntKind.i64 (IntKind.wrap IntKind.i64 ((↑n : Int) + (↑(1 : Nat) : Int)) - (↑i : Int)))) : Int) ≤ (↑(Int.toNat (↑i : Int) - 0 + Int.toNat (IntKind.wrap IntKind.i64 (IntKind.wrap IntKind.i64 ((↑n : Int) + (↑(1 : Nat) : Int)) - (↑i : Int))) + k) : Int))) (gb (decide (decide (true = true ∧ 0 + Int.toNat (↑i : Int) * 4 + Min.min 1 (Int.toNat (↑(Int.toNat (↑i : Int) - 0 + Int.toNat (IntKind.wrap IntKind.i64 (IntKind.wrap IntKind.i64 ((↑n : Int) + (↑(1 : Nat) : Int)) - (↑i : Int)))) : Int) - Int.toNat (↑i : Int)) * 4 ≤ List.length (List.take ((Int.toNat (↑i : Int) - 0) * 4) cs ++ flat (List.replicate (Int.toNat (IntKind.wrap IntKind.i64 (IntKind.wrap IntKind.i64 ((↑n : Int) + (↑(1 : Nat) : Int)) - (↑i : Int)))) (AVal.agg [AVal.str [], AVal.int IntKind.i64 (0 : Int), AVal.int IntKind.i64 (0 : Int), AVal.str []])) ++ List.replicate (k * 4) AVal.undef) ∧ (Oid.isOut (Oid.out 1) = true → noLocL (List.take (Min.min (List.length [AVal.agg [AVal.str (Pr.key p), AVal.int IntKind.i64 (Vl.k (Pr.v p)), AVal.int IntKind.i64 (Vl.n (Pr.v p)), AVal.str (Vl.s (Pr.v p))]]) (Int.toNat (↑(Int.toNat (↑i : Int) - 0 + Int.toNat (IntKind.wrap IntKind.i64 (IntKind.wrap IntKind.i64 ((↑n : Int) + (↑(1 : Nat) : Int)) - (↑i : Int)))) : Int) - Int.toNat (↑i : Int)) * Go.TypeInfo.size (Go.Tables.types (Go.Program.toTables Try.prog))[37]) (flat [AVal.agg [AVal.str (Pr.key p), AVal.int IntKind.i64 (Vl.k (Pr.v p)), AVal.int IntKind.i64 (Vl.n (Pr.v p)), AVal.str (Vl.s (Pr.v p))]])) = true)) = true ∧ true = true)) (gb (decide ((0 : Int) ≤ IntKind.wrap IntKind.i64 ((↑i : Int) + (↑(1 : Nat) : Int)) ∧ IntKind.wrap IntKind.i64 ((↑i : Int) + (↑(1 : Nat) : Int)) ≤ (↑(Int.toNat (↑i : Int) - 0 + Int.toNat (IntKind.wrap IntKind.i64 (IntKind.wrap IntKind.i64 ((↑n : Int) + (↑(1 : Nat) : Int)) - (↑i : Int)))) : Int) ∧ (↑(Int.toNat (↑i : Int) - 0 + Int.toNat (IntKind.wrap IntKind.i64 (IntKind.wrap IntKind.i64 ((↑n : Int) + (↑(1 : Nat) : Int)) - (↑i : Int)))) : Int) ≤ (↑(Int.toNat (↑i : Int) - 0 + Int.toNat (IntKind.wrap IntKind.i64 (IntKind.wrap IntKind.i64 ((↑n : Int) + (↑(1 : Nat) : Int)) - (↑i : Int))) + k) : Int))) (gb (decide ((0 : Int) ≤ (↑i : Int) ∧ (↑i : Int) ≤ (↑n : Int) ∧ (↑n : Int) ≤ (↑c : Int))) (gb (decide (decide (decide (0 + Int.toNat (↑i : Int) * 4 + (Int.toNat (↑n : Int) - Int.toNat (↑i : Int)) * 4 ≤ List.length cs) = true ∧ 0 + Int.toNat (IntKind.wrap IntKind.i64 ((↑i : Int) + (↑(1 : Nat) : Int))) * 4 + Min.min (Int.toNat (↑n : Int) - Int.toNat (↑i : Int)) (Int.toNat (↑(Int.toNat (↑i : Int) - 0 + Int.toNat (IntKind.wrap IntKind.i64 (IntKind.wrap IntKind.i64 ((↑n : Int) + (↑(1 : Nat) : Int)) - (↑i : Int)))) : Int) - Int.toNat (IntKind.wrap IntKind.i64 ((↑i : Int) + (↑(1 : Nat) : Int)))) * 4 ≤ List.length (setRange (List.take ((Int.toNat (↑i : Int) - 0) * 4) cs ++ flat (List.replicate (Int.toNat (IntKind.wrap IntKind.i64 (IntKind.wrap IntKind.i64 ((↑n : Int) + (↑(1 : Nat) : Int)) - (↑i : Int)))) (AVal.agg [AVal.str [], AVal.int IntKind.i64 (0 : Int), AVal.int IntKind.i64 (0 : Int), AVal.str []])) ++ List.replicate (k * 4) AVal.undef) (0 + Int.toNat (↑i : Int) * 4) (List.take (Min.min 1 (Int.toNat (↑(Int.toNat (↑i : Int) - 0 + Int.toNat (IntKind.wrap IntKind.i64 (IntKind.wrap IntKind.i64 ((↑n : Int) + (↑(1 : Nat) : Int)) - (↑i : Int)))) : Int) - Int.toNat (↑i : Int)) * 4) [AVal.str (Pr.key p), AVal.int IntKind.i64 (Vl.k (Pr.v p)), AVal.int IntKind.i64 (Vl.n (Pr.v p)), AVal.str (Vl.s (Pr.v p))])) ∧ (Oid.isOut (Oid.out 1) = true → noLocL (List.take (Min.min (Int.toNat (↑n : Int) - Int.toNat (↑i : Int)) (Int.toNat (↑(Int.toNat (↑i : Int) - 0 + Int.toNat (IntKind.wrap IntKind.i64 (IntKind.wrap IntKind.i64 ((↑n : Int) + (↑(1 : Nat) : Int)) - (↑i : Int)))) : Int) - Int.toNat (IntKind.wrap IntKind.i64 ((↑i : Int) + (↑(1 : Nat) : Int)))) * Go.TypeInfo.size (Go.Tables.types (Go.Program.toTables Try.prog))[37]) (List.take ((Int.toNat (↑n : Int) - Int.toNat (↑i : Int)) * Go.TypeInfo.size (Go.Tables.types (Go.Program.toTables Try.prog))[37]) (List.drop (0 + Int.toNat (↑i : Int) * 4) cs))) = true)) = true ∧ true = true)) (Q (AVal.arr (Oid.out 1) 0 (Int.toNat (↑i : Int) - 0 + Int.toNat (IntKind.wrap IntKind.i64 (IntKind.wrap IntKind.i64 ((↑n : Int) + (↑(1 : Nat) : Int)) - (↑i : Int)))) (Int.toNat (↑i : Int) - 0 + Int.toNat (IntKind.wrap IntKind.i64 (IntKind.wrap IntKind.i64 ((↑n : Int) + (↑(1 : Nat) : Int)) - (↑i : Int))) + k)) (Sto.set (Sto.set (Sto.push (Sto.one (AObj.cells cs)) (AObj.cells (List.take ((Int.toNat (↑i : Int) - 0) * 4) cs ++ flat (List.replicate (Int.toNat (IntKind.wrap IntKind.i64 (IntKind.wrap IntKind.i64 ((↑n : Int) + (↑(1 : Nat) : Int)) - (↑i : Int)))) (AVal.agg [AVal.str [], AVal.int IntKind.i64 (0 : Int), AVal.int IntKind.i64 (0 : Int), AVal.str []])) ++ List.replicate (k * 4) AVal.undef))) 1 (AObj.cells (setRange (List.take ((Int.toNat (↑i : Int) - 0) * 4) cs ++ flat (List.replicate (Int.toNat (IntKind.wrap IntKind.i64 (IntKind.wrap IntKind.i64 ((↑n : Int) + (↑(1 : Nat) : Int)) - (↑i : Int)))) (AVal.agg [AVal.str [], AVal.int IntKind.i64 (0 : Int), AVal.int IntKind.i64 (0 : Int), AVal.str []])) ++ List.replicate (k * 4) AVal.undef) (0 + Int.toNat (↑i : Int) * 4) (List.take (Min.min 1 (Int.toNat (↑(Int.toNat (↑i : Int) - 0 + Int.toNat (IntKind.wrap IntKind.i64 (IntKind.wrap IntKind.i64 ((↑n : Int) + (↑(1 : Nat) : Int)) - (↑i : Int)))) : Int) - Int.toNat (↑i : Int)) * 4) [AVal.str (Pr.key p), AVal.int IntKind.i64 (Vl.k (Pr.v p)), AVal.int IntKind.i64 (Vl.n (Pr.v p)), AVal.str (Vl.s (Pr.v p))])))) 1 (AObj.cells (setRange (setRange (List.take ((Int.toNat (↑i : Int) - 0) * 4) cs ++ flat (List.replicate (Int.toNat (IntKind.wrap IntKind.i64 (IntKind.wrap IntKind.i64 ((↑n : Int) + (↑(1 : Nat) : Int)) - (↑i : Int)))) (AVal.agg [AVal.str [], AVal.int IntKind.i64 (0 : Int), AVal.int IntKind.i64 (0 : Int), AVal.str []])) ++ List.replicate (k * 4) AVal.undef) (0 + Int.toNat (↑i : Int) * 4) (List.take (Min.min 1 (Int.toNat (↑(Int.toNat (↑i : Int) - 0 + Int.toNat (IntKind.wrap IntKind.i64 (IntKind.wrap IntKind.i64 ((↑n : Int) + (↑(1 : Nat) : Int)) - (↑i : Int)))) : Int) - Int.toNat (↑i : Int)) * 4) [AVal.str (Pr.key p), AVal.int IntKind.i64 (Vl.k (Pr.v p)), AVal.int IntKind.i64 (Vl.n (Pr.v p)), AVal.str (Vl.s (Pr.v p))])) (0 + Int.toNat (IntKind.wrap IntKind.i64 ((↑i : Int) + (↑(1 : Nat) : Int))) * 4) (List.take (Min.min (Int.toNat (↑n : Int) - Int.toNat (↑i : Int)) (Int.toNat (↑(Int.toNat (↑i : Int) - 0 + Int.toNat (IntKind.wrap IntKind.i64 (IntKind.wrap IntKind.i64 ((↑n : Int) + (↑(1 : Nat) : Int)) - (↑i : Int)))) : Int) - Int.toNat (IntKind.wrap IntKind.i64 ((↑i : Int) + (↑(1 : Nat) : Int)))) * 4) (List.take ((Int.toNat (↑n : Int) - Int.toNat (↑i : Int)) * 4) (List.drop (0 + Int.toNat (↑i : Int) * 4) cs)))))))))))))))) (gb (decide ((0 : Int) ≤ (0 : Int) ∧ (0 : Int) ≤ IntKind.wrap IntKind.i64 ((↑n : Int) + (↑(1 : Nat) : Int)) ∧ IntKind.wrap IntKind.i64 ((↑n : Int) + (↑(1 : Nat) : Int)) ≤ (↑c : Int))) (gb (decide ((0 : Int) ≤ IntKind.wrap IntKind.i64 ((↑i : Int) + (↑(1 : Nat) : Int)) ∧ IntKind.wrap IntKind.i64 ((↑i : Int) + (↑(1 : Nat) : Int)) ≤ (↑(Int.toNat (IntKind.wrap IntKind.i64 ((↑n : Int) + (↑(1 : Nat) : Int))) - 0) : Int) ∧ (↑(Int.toNat (IntKind.wrap IntKind.i64 ((↑n : Int) + (↑(1 : Nat) : Int))) - 0) : Int) ≤ (↑(c - 0) : Int))) (gb (decide (0 < 4 ∧ 0 + Int.toNat (IntKind.wrap IntKind.i64 ((↑i : Int) + (↑(1 : Nat) : Int))) * 4 + (Int.toNat (↑(Int.toNat (IntKind.wrap IntKind.i64 ((↑n : Int) + (↑(1 : Nat) : Int))) - 0) : Int) - Int.toNat (IntKind.wrap IntKind.i64 ((↑i : Int) + (↑(1 : Nat) : Int)))) ≤ List.length cs)) (gb (decide ((0 : Int) ≤ IntKind.wrap IntKind.i64 ((↑i : Int) + (↑(1 : Nat) : Int)) ∧ IntKind.wrap IntKind.i64 ((↑i : Int) + (↑(1 : Nat) : Int)) ≤ (↑(Int.toNat (IntKind.wrap IntKind.i64 ((↑n : Int) + (↑(1 : Nat) : Int))) - 0) : Int) ∧ (↑(Int.toNat (IntKind.wrap IntKind.i64 ((↑n : Int) + (↑(1 : Nat) : Int))) - 0) : Int) ≤ (↑(c - 0) : Int))) (gb (decide ((0 : Int) ≤ (↑i : Int) ∧ (↑i : Int) ≤ (↑(Int.toNat (IntKind.wrap IntKind.i64 ((↑n : Int) + (↑(1 : Nat) : Int))) - 0) : Int) ∧ (↑(Int.toNat (IntKind.wrap IntKind.i64 ((↑n : Int) + (↑(1 : Nat) : Int))) - 0) : Int) ≤ (↑(c - 0) : Int))) (gb (decide (decide (decide (0 + Int.toNat (↑i : Int) * 4 + (Int.toNat (↑(Int.toNat (IntKind.wrap IntKind.i64 ((↑n : Int) + (↑(1 : Nat) : Int))) - 0) : Int) - Int.toNat (↑i : Int)) * 4 ≤ List.length cs) = true ∧ 0 + Int.toNat (IntKind.wrap IntKind.i64 ((↑i : Int) + (↑(1 : Nat) : Int))) * 4 + Min.min (Int.toNat (↑(Int.toNat (IntKind.wrap IntKind.i64 ((↑n : Int) + (↑(1 : Nat) : Int))) - 0) : Int) - Int.toNat (↑i : Int)) (Int.toNat (↑(Int.toNat (IntKind.wrap IntKind.i64 ((↑n : Int) + (↑(1 : Nat) : Int))) - 0) : Int) - Int.toNat (IntKind.wrap IntKind.i64 ((↑i : Int) + (↑(1 : Nat) : Int)))) * 4 ≤ List.length cs ∧ (Oid.isOut (Oid.out 0) = true → noLocL (List.take (Min.min (Int.toNat (↑(Int.toNat (IntKind.wrap IntKind.i64 ((↑n : Int) + (↑(1 : Nat) : Int))) - 0) : Int) - Int.toNat (↑i : Int)) (Int.toNat (↑(Int.toNat (IntKind.wrap IntKind.i64 ((↑n : Int) + (↑(1 : Nat) : Int))) - 0) : Int) - Int.toNat (IntKind.wrap IntKind.i64 ((↑i : Int) + (↑(1 : Nat) : Int)))) * Go.TypeInfo.size (Go.Tables.types (Go.Program.toTables Try.prog))[37]) (List.take ((Int.toNat (↑(Int.toNat (IntKind.wrap IntKind.i64 ((↑n : Int) + (↑(1 : Nat) : Int))) - 0) : Int) - Int.toNat (↑i : Int)) * Go.TypeInfo.size (Go.Tables.types (Go.Program.toTables Try.prog))[37]) (List.drop (0 + Int.toNat (↑i : Int) * 4) cs))) = true)) = true ∧ true = true)) (gb (decide ((0 : Int) ≤ (↑i : Int) ∧ (↑i : Int) ≤ (↑(Int.toNat (IntKind.wrap IntKind.i64 ((↑n : Int) + (↑(1 : Nat) : Int))) - 0) : Int) ∧ (↑(Int.toNat (IntKind.wrap IntKind.i64 ((↑n : Int) + (↑(1 : Nat) : Int))) - 0) : Int) ≤ (↑(c - 0) : Int))) (gb (decide (decide (true = true ∧ 0 + Int.toNat (↑i : Int) * 4 + Min.min 1 (Int.toNat (↑(Int.toNat (IntKind.wrap IntKind.i64 ((↑n : Int) + (↑(1 : Nat) : Int))) - 0) : Int) - Int.toNat (↑i : Int)) * 4 ≤ List.length (setRange cs (0 + Int.toNat (IntKind.wrap IntKind.i64 ((↑i : Int) + (↑(1 : Nat) : Int))) * 4) (List.take (Min.min (Int.toNat (↑(Int.toNat (IntKind.wrap IntKind.i64 ((↑n : Int) + (↑(1 : Nat) : Int))) - 0) : Int) - Int.toNat (↑i : Int)) (Int.toNat (↑(Int.toNat (IntKind.wrap IntKind.i64 ((↑n : Int) + (↑(1 : Nat) : Int))) - 0) : Int) - Int.toNat (IntKind.wrap IntKind.i64 ((↑i : Int) + (↑(1 : Nat) : Int)))) * 4) (List.take ((Int.toNat (↑(Int.toNat (IntKind.wrap IntKind.i64 ((↑n : Int) + (↑(1 : Nat) : Int))) - 0) : Int) - Int.toNat (↑i : Int)) * 4) (List.drop (0 + Int.toNat (↑i : Int) * 4) cs)))) ∧ (Oid.isOut (Oid.out 0) = true → noLocL (List.take (Min.min (List.length [AVal.agg [AVal.str (Pr.key p), AVal.int IntKind.i64 (Vl.k (Pr.v p)), AVal.int IntKind.i64 (Vl.n (Pr.v p)), AVal.str (Vl.s (Pr.v p))]]) (Int.toNat (↑(Int.toNat (IntKind.wrap IntKind.i64 ((↑n : Int) + (↑(1 : Nat) : Int))) - 0) : Int) - Int.toNat (↑i : Int)) * Go.TypeInfo.size (Go.Tables.types (Go.Program.toTables Try.prog))[37]) (flat [AVal.agg [AVal.str (Pr.key p), AVal.int IntKind.i64 (Vl.k (Pr.v p)), AVal.int IntKind.i64 (Vl.n (Pr.v p)), AVal.str (Vl.s (Pr.v p))]])) = true)) = true ∧ true = true)) (Q (AVal.arr (Oid.out 0) 0 (Int.toNat (IntKind.wrap IntKind.i64 ((↑n : Int) + (↑(1 : Nat) : Int))) - 0) (c - 0)) (Sto.set (Sto.set (Sto.one (AObj.cells cs)) 0 (AObj.cells (setRange cs (0 + Int.toNat (IntKind.wrap IntKind.i64 ((↑i : Int) + (↑(1 : Nat) : Int))) * 4) (List.take (Min.min (Int.toNat (↑(Int.toNat (IntKind.wrap IntKind.i64 ((↑n : Int) + (↑(1 : Nat) : Int))) - 0) : Int) - Int.toNat (↑i : Int)) (Int.toNat (↑(Int.toNat (IntKind.wrap IntKind.i64 ((↑n : Int) + (↑(1 : Nat) : Int))) - 0) : Int) - Int.toNat (IntKind.wrap IntKind.i64 ((↑i : Int) + (↑(1 : Nat) : Int)))) * 4) (List.take ((Int.toNat (↑(Int.toNat (IntKind.wrap IntKind.i64 ((↑n : Int) + (↑(1 : Nat) : Int))) - 0) : Int) - Int.toNat (↑i : Int)) * 4) (List.drop (0 + Int.toNat (↑i : Int) * 4) cs)))))) 0 (AObj.cells (setRange (setRange cs (0 + Int.toNat (IntKind.wrap IntKind.i64 ((↑i : Int) + (↑(1 : Nat) : Int))) * 4) (List.take (Min.min (Int.toNat (↑(Int.toNat (IntKind.wrap IntKind.i64 ((↑n : Int) + (↑(1 : Nat) : Int))) - 0) : Int) - Int.toNat (↑i : Int)) (Int.toNat (↑(Int.toNat (IntKind.wrap IntKind.i64 ((↑n : Int) + (↑(1 : Nat) : Int))) - 0) : Int) - Int.toNat (IntKind.wrap IntKind.i64 ((↑i : Int) + (↑(1 : Nat) : Int)))) * 4) (List.take ((Int.toNat (↑(Int.toNat (IntKind.wrap IntKind.i64 ((↑n : Int) + (↑(1 : Nat) : Int))) - 0) : Int) - Int.toNat (↑i : Int)) * 4) (List.drop (0 + Int.toNat (↑i : Int) * 4) cs)))) (0 + Int.toNat (↑i : Int) * 4) (List.take (Min.min 1 (Int.toNat (↑(Int.toNat (IntKind.wrap IntKind.i64 ((↑n : Int) + (↑(1 : Nat) : Int))) - 0) : Int) - Int.toNat (↑i : Int)) * 4) [AVal.str (Pr.key p), AVal.int IntKind.i64 (Vl.k (Pr.v p)), AVal.int IntKind.i64 (Vl.n (Pr.v p)), AVal.str (Vl.s (Pr.v p))]))))))))))))))))) : ACall Try.prog 37 [.arr (.out 0) 0 n c, .int .i64 (i : Int), .slice [p.a] 4 .ro] (Sto.one (.cells cs)) Q :=
  ACall.intro hmix Try.func37 (c := code_37_) (by kernel_rfl) cInsP ho (Nat.le_of_ble_eq_true (by kernel_rfl)) (by rw [insP_r]; exact h)
theorem insPH_r (i : Nat) (p : Pr) (Q : AVal → Sto → Prop) : vc Try.prog cInsPH code_37_ (endK Try.prog Try.f37.results.toList Q) (St.start Try.f37.ntmps [.slice [] 4 .full, .int .i64 (i : Int), .slice [p.a] 4 .ro] (Sto.empty)) =
  (gb (decide ((0 : Int) ≤ (↑i : Int) ∧ (↑i : Int) ≤ (0 : Int) ∧ (0 : Int) ≤ (0 : Int))) (brV (hold false) true (Q (AVal.slice [] 4 Tag.full) Sto.empty) (brV (hold ((↑i : Int) == (0 : Int))) true (brV (hold false) true (Q (AVal.slice [] 4 Tag.full) Sto.empty) (gb (hold true) (∀ (k : Nat), 0 + 1 + k ≤ 9223372036854775807 → gb (decide (AObj.noLoc (AObj.cells ([AVal.str (Pr.key p), AVal.int IntKind.i64 (Vl.k (Pr.v p)), AVal.int IntKind.i64 (Vl.n (Pr.v p)), AVal.str (Vl.s (Pr.v p))] ++ List.replicate (k * 4) AVal.undef)) = true ∧ 25 < 95)) (Q (AVal.arr (Oid.out 0) 0 (0 + 1) (0 + 1 + k)) (Sto.push Sto.empty (AObj.cells ([AVal.str (Pr.key p), AVal.int IntKind.i64 (Vl.k (Pr.v p)), AVal.int IntKind.i64 (Vl.n (Pr.v p)), AVal.str (Vl.s (Pr.v p))] ++ List.replicate (k * 4) AVal.undef))))))) False))) := by kernel_rfl
theorem insPH_i (i : Nat) (p : Pr) (Q : AVal → Sto → Prop) (ho : OrcOk Try.prog cInsPH) (h : gb (decide ((0 : Int) ≤ (↑i : Int) ∧ (↑i : Int) ≤ (0 : Int) ∧ (0 : Int) ≤ (0 : Int))) (brV (hold false) true (Q (AVal.slice [] 4 Tag.full) Sto.empty) (brV (hold ((↑i : Int) == (0 : Int))) true (brV (hold false) true (Q (AVal.slice [] 4 Tag.full) Sto.empty) (gb (hold true) (∀ (k : Nat), 0 + 1 + k ≤ 9223372036854775807 → gb (decide (AObj.noLoc (AObj.cells ([AVal.str (Pr.key p), AVal.int IntKind.i64 (Vl.k (Pr.v p)), AVal.int IntKind.i64 (Vl.n (Pr.v p)), AVal.str (Vl.s (Pr.v p))] ++ List.replicate (k * 4) AVal.undef)) = true ∧ 25 < 95)) (Q (AVal.arr (Oid.out 0) 0 (0 + 1) (0 + 1 + k)) (Sto.push Sto.empty (AObj.cells ([AVal.str (Pr.key p), AVal.int IntKind.i64 (Vl.k (Pr.v p)), AVal.int IntKind.i64 (Vl.n (Pr.v p)), AVal.str (Vl.s (Pr.v p))] ++ List.replicate (k * 4) AVal.undef))))))) False))) : ACall Try.prog 37 [.slice [] 4 .full, .int .i64 (i : Int), .slice [p.a] 4 .ro] (Sto.empty) Q :=
  ACall.intro hmix Try.func37 (c := code_37_) (by kernel_rfl) cInsPH ho (Nat.le_of_ble_eq_true (by kernel_rfl)) (by rw [insPH_r]; exact h)
theorem idxS_r (l : List Txt) (s : Txt) (Q : AVal → Sto → Prop) : vc Try.prog cIdxS code_57_ (endK Try.prog Try.f57.results.toList Q) (St.start Try.f57.ntmps [.slice (strv l) 1 .ro, .str s] (Sto.empty)) =
  (loopV (fun s => St.norm [] [0, 1, 7, 8] [] s) (vc Try.prog cIdxS code_57_1_0_1_0_0) (blockK 0 (thenK (vc Try.prog cIdxS code_57_1_1 (endK Try.prog (Array.toList (Go.Func.results Try.f57)) Q)) (endK Try.prog (Array.toList (Go.Func.results Try.f57)) Q))) (St.mk 19 [(0, AVal.slice (strv l) 1 Tag.ro), (1, AVal.str s), (7, AVal.int IntKind.i64 (↑(List.length (strv l)) : Int)), (8, AVal.int IntKind.i64 (0 : Int))] [] [] Sto.empty)) := by kernel_rfl
theorem idxS_i (l : List Txt) (s : Txt) (Q : AVal → Sto → Prop) (ho : OrcOk Try.prog cIdxS) (h : loopV (fun s => St.norm [] [0, 1, 7, 8] [] s) (vc Try.prog cIdxS code_57_1_0_1_0_0) (blockK 0 (thenK (vc Try.prog cIdxS code_57_1_1 (endK Try.prog (Array.toList (Go.Func.results Try.f57)) Q)) (endK Try.prog (Array.toList (Go.Func.results Try.f57)) Q))) (St.mk 19 [(0, AVal.slice (strv l) 1 Tag.ro), (1, AVal.str s), (7, AVal.int IntKind.i64 (↑(List.length (strv l)) : Int)), (8, AVal.int IntKind.i64 (0 : Int))] [] [] Sto.empty)) : ACall Try.prog 57 [.slice (strv l) 1 .ro, .str s] (Sto.empty) Q :=
  ACall.intro hmix Try.func57 (c := code_57_) (by kernel_rfl) cIdxS ho (Nat.le_of_ble_eq_true (by kernel_rfl)) (by rw [idxS_r]; exact h)
noncomputable def idxSL_S (l : List Txt) (s : Txt) (n i : Nat) : St := St.mk 19 [(0, .slice (strv l) 1 .ro), (1, .str s), (7, .int .i64 (n : Int)), (8, .int .i64 (i : Int))] [] [] (Sto.empty)
noncomputable abbrev idxSL_C : Code := code_57_1_0_1_0_0
theorem idxSL_r (l : List Txt) (s : Txt) (n i : Nat) (L : St → Prop) (K : Exit → St → Prop) : vc Try.prog cIdxS code_57_1_0_1_0_0 (thenK (fun s => L (St.norm [] [0, 1, 7, 8] [] s)) K) (St.mk 19 [(0, .slice (strv l) 1 .ro), (1, .str s), (7, .int .i64 (n : Int)), (8, .int .i64 (i : Int))] [] [] (Sto.empty)) =
  (brV (hold (decide ((↑i : Int) < (↑n : Int)))) true (gb (decide ((0 : Int) ≤ (↑i : Int) ∧ (↑i : Int) < (↑(List.length (strv l)) : Int))) (gb (decide (1 ≤ List.length (elemAt (strv l) (↑i : Int)) ∧ 0 < 1) && etaOk Sh.str (List.getD (elemAt (strv l) (↑i : Int)) 0 AVal.undef)) (brV (hold (s == AVal.strOf (List.getD (elemAt (strv l) (↑i : Int)) 0 AVal.undef))) true (K Exit.ret (St.mk 19 [(0, AVal.slice (strv l) 1 Tag.ro), (1, AVal.str s), (7, AVal.int IntKind.i64 (↑n : Int)), (8, AVal.int IntKind.i64 (↑i : Int)), (9, AVal.bool (hold (decide ((↑i : Int) < (↑n : Int))))), (5, AVal.int IntKind.i64 (↑i : Int)), (16, AVal.bool (hold (s == AVal.strOf (List.getD (elemAt (strv l) (↑i : Int)) 0 AVal.undef)))), (4, AVal.int IntKind.i64 (↑i : Int))] [] [] Sto.empty)) (L (St.mk 19 [(0, AVal.slice (strv l) 1 Tag.ro), (1, AVal.str s), (7, AVal.int IntKind.i64 (↑n : Int)), (8, AVal.int IntKind.i64 (IntKind.wrap IntKind.i64 ((↑i : Int) + (1 : Int))))] [] [] Sto.empty))))) (K (Exit.exit 0) (St.mk 19 [(0, AVal.slice (strv l) 1 Tag.ro), (1, AVal.str s), (7, AVal.int IntKind.i64 (↑n : Int)), (8, AVal.int IntKind.i64 (↑i : Int)), (9, AVal.bool (hold (decide ((↑i : Int) < (↑n : Int)))))] [] [] Sto.empty))) := by kernel_rfl
theorem small_r (l : List Pr) (Q : AVal → Sto → Prop) : vc Try.prog cSmall code_9_ (endK Try.prog Try.f9.results.toList Q) (St.start Try.f9.ntmps [.slice (prv l) 4 .ro] (Sto.empty)) =
  (brV (hold (decide ((40 : Int) < (↑(List.length (prv l)) : Int)))) true (Q (AVal.bool false) Sto.empty) (loopV (fun s => St.norm [] [0, 3] [] s) (vc Try.prog cSmall code_9_1_1_0_1_0_0) (blockK 0 (thenK (vc Try.prog cSmall code_9_1_1_1 (endK Try.prog (Array.toList (Go.Func.results Try.f9)) Q)) (endK Try.prog (Array.toList (Go.Func.results Try.f9)) Q))) (St.mk 30 [(0, AVal.slice (prv l) 4 Tag.ro), (3, AVal.int IntKind.i64 (0 : Int))] [] [] Sto.empty))) := by kernel_rfl
theorem small_i (l : List Pr) (Q : AVal → Sto → Prop) (ho : OrcOk Try.prog cSmall) (h : brV (hold (decide ((40 : Int) < (↑(List.length (prv l)) : Int)))) true (Q (AVal.bool false) Sto.empty) (loopV (fun s => St.norm [] [0, 3] [] s) (vc Try.prog cSmall code_9_1_1_0_1_0_0) (blockK 0 (thenK (vc Try.prog cSmall code_9_1_1_1 (endK Try.prog (Array.toList (Go.Func.results Try.f9)) Q)) (endK Try.prog (Array.toList (Go.Func.results Try.f9)) Q))) (St.mk 30 [(0, AVal.slice (prv l) 4 Tag.ro), (3, AVal.int IntKind.i64 (0 : Int))] [] [] Sto.empty))) : ACall Try.prog 9 [.slice (prv l) 4 .ro] (Sto.empty) Q :=
  ACall.intro hmix Try.func9 (c := code_9_) (by kernel_rfl) cSmall ho (Nat.le_of_ble_eq_true (by kernel_rfl)) (by rw [small_r]; exact h)
noncomputable def smallL_S (l : List Pr) (i : Nat) : St := St.mk 30 [(0, .slice (prv l) 4 .ro), (3, .int .i64 (i : Int))] [] [] (Sto.empty)
noncomputable abbrev smallL_C : Code := code_9_1_1_0_1_0_0
theorem smallL_r (l : List Pr) (i : Nat) (L : St → Prop) (K : Exit → St → Prop) : vc Try.prog cSmall code_9_1_1_0_1_0_0 (thenK (fun s => L (St.norm [] [0, 3] [] s)) K) (St.mk 30 [(0, .slice (prv l) 4 .ro), (3, .int .i64 (i : Int))] [] [] (Sto.empty)) =
  (brV (hold (decide ((↑i : Int) < (↑(List.length (prv l)) : Int)))) true (gb (decide ((0 : Int) ≤ (↑i : Int) ∧ (↑i : Int) < (↑(List.length (prv l)) : Int))) (gb (decide (1 ≤ List.length (List.drop 0 (elemAt (prv l) (↑i : Int))) ∧ 0 < 1) && etaOk Sh.str (List.getD (List.drop 0 (elemAt (prv l) (↑i : Int))) 0 AVal.undef)) (brV (hold (decide ((300 : Int) < (↑(List.length (AVal.strOf (List.getD (List.drop 0 (elemAt (prv l) (↑i : Int))) 0 AVal.undef))) : Int)))) false (gb (decide ((0 : Int) ≤ (↑i : Int) ∧ (↑i : Int) < (↑(List.length (prv l)) : Int))) (gb (decide (1 ≤ List.length (List.drop 2 (List.drop 1 (elemAt (prv l) (↑i : Int)))) ∧ 0 < 1) && etaOk Sh.str (List.getD (List.drop 2 (List.drop 1 (elemAt (prv l) (↑i : Int)))) 0 AVal.undef)) (brV (hold (decide ((300 : Int) < (↑(List.length (AVal.strOf (List.getD (List.drop 2 (List.drop 1 (elemAt (prv l) (↑i : Int)))) 0 AVal.undef))) : Int)))) true (K Exit.ret (St.mk 30 [(0, AVal.slice (prv l) 4 Tag.ro), (3, AVal.int IntKind.i64 (↑i : Int)), (10, AVal.bool (hold (decide ((↑i : Int) < (↑(List.length (prv l)) : Int))))), (29, AVal.bool (hold (decide ((300 : Int) < (↑(List.length (AVal.strOf (List.getD (List.drop 2 (List.drop 1 (elemAt (prv l) (↑i : Int)))) 0 AVal.undef))) : Int))))), (2, AVal.bool false)] [] [] Sto.empty)) (L (St.mk 30 [(0, AVal.slice (prv l) 4 Tag.ro), (3, AVal.int IntKind.i64 (IntKind.wrap IntKind.i64 ((↑i : Int) + (1 : Int))))] [] [] Sto.empty))))) (K Exit.ret (St.mk 30 [(0, AVal.slice (prv l) 4 Tag.ro), (3, AVal.int IntKind.i64 (↑i : Int)), (10, AVal.bool (hold (decide ((↑i : Int) < (↑(List.length (prv l)) : Int))))), (29, AVal.bool true), (2, AVal.bool false)] [] [] Sto.empty))))) (K (Exit.exit 0) (St.mk 30 [(0, AVal.slice (prv l) 4 Tag.ro), (3, AVal.int IntKind.i64 (↑i : Int)), (10, AVal.bool (hold (decide ((↑i : Int) < (↑(List.length (prv l)) : Int)))))] [] [] Sto.empty))) := by kernel_rfl
theorem num_r (key : Txt) (n : Int) (Q : AVal → Sto → Prop) : vc Try.prog cNum code_25_ (endK Try.prog Try.f25.results.toList Q) (St.start Try.f25.ntmps [.str key, .int .i64 n] (Sto.empty)) =
  (Q (AVal.agg [AVal.str key, AVal.int IntKind.i64 (1 : Int), AVal.int IntKind.i64 n, AVal.str []]) Sto.empty) := by kernel_rfl
theorem num_i (key : Txt) (n : Int) (Q : AVal → Sto → Prop) (ho : OrcOk Try.prog cNum) (h : Q (AVal.agg [AVal.str key, AVal.int IntKind.i64 (1 : Int), AVal.int IntKind.i64 n, AVal.str []]) Sto.empty) : ACall Try.prog 25 [.str key, .int .i64 n] (Sto.empty) Q :=
  ACall.intro hmix Try.func25 (c := code_25_) (by kernel_rfl) cNum ho (Nat.le_of_ble_eq_true (by kernel_rfl)) (by rw [num_r]; exact h)
theorem text_r (key s : Txt) (Q : AVal → Sto → Prop) : vc Try.prog cText code_26_ (endK Try.prog Try.f26.results.toList Q) (St.start Try.f26.ntmps [.str key, .str s] (Sto.empty)) =
  (Q (AVal.agg [AVal.str key, AVal.int IntKind.i64 (2 : Int), AVal.int IntKind.i64 (0 : Int), AVal.str s]) Sto.empty) := by kernel_rfl
theorem text_i (key s : Txt) (Q : AVal → Sto → Prop) (ho : OrcOk Try.prog cText) (h : Q (AVal.agg [AVal.str key, AVal.int IntKind.i64 (2 : Int), AVal.int IntKind.i64 (0 : Int), AVal.str s]) Sto.empty) : ACall Try.prog 26 [.str key, .str s] (Sto.empty) Q :=
  ACall.intro hmix Try.func26 (c := code_26_) (by kernel_rfl) cText ho (Nat.le_of_ble_eq_true (by kernel_rfl)) (by rw [text_r]; exact h)
theorem copied_r (l : List Pr) (Q : AVal → Sto → Prop) : vc Try.prog cCopied code_15_ (endK Try.prog Try.f15.results.toList Q) (St.start Try.f15.ntmps [.slice (prv l) 4 .ro] (Sto.empty)) =
  (gb (decide (decide (true = true ∧ (true = true ∨ 0 < List.length (prv l)) ∧ (0 + List.length (prv l)) * 48 ≤ 140737488355328 ∧ 0 + List.length (prv l) ≤ 9223372036854775807) = true ∧ true = true)) (Q (AVal.slice ([] ++ prv l) 4 (Tag.own 0)) (Sto.pushOwn Sto.empty (0 + List.length (prv l))))) := by kernel_rfl
theorem copied_i (l : List Pr) (Q : AVal → Sto → Prop) (ho : OrcOk Try.prog cCopied) (h : gb (decide (decide (true = true ∧ (true = true ∨ 0 < List.length (prv l)) ∧ (0 + List.length (prv l)) * 48 ≤ 140737488355328 ∧ 0 + List.length (prv l) ≤ 9223372036854775807) = true ∧ true = true)) (Q (AVal.slice ([] ++ prv l) 4 (Tag.own 0)) (Sto.pushOwn Sto.empty (0 + List.length (prv l))))) : ACall Try.prog 15 [.slice (prv l) 4 .ro] (Sto.empty) Q :=
  ACall.intro hmix Try.func15 (c := code_15_) (by kernel_rfl) cCopied ho (Nat.le_of_ble_eq_true (by kernel_rfl)) (by rw [copied_r]; exact h)
end Go.Proofs.Ytbghpjamahgegaa
end

section
namespace Go.AL
set_option linter.unusedSimpArgs false
set_option linter.unusedVariables false
/-- Where a name is, or would be. -/
def posP (l : List Pr) (key : Txt) : Nat := l.findIdx fun p => decide (0 ≤ cmpK p.key key)
def hasP (l : List Pr) (key : Txt) : Bool := decide (∃ h : posP l key < l.length, cmpK l[posP l key].key key = 0)
theorem posP_le (l : List Pr) (key : Txt) : posP l key ≤ l.length := List.findIdx_le_length
theorem posP_eq {l : List Pr} {key : Txt} {i : Nat} (hi : i ≤ l.length) (h1 : ∀ j (h : j < l.length), j < i → cmpK l[j].key key < 0) (h2 : ∀ h : i < l.length, 0 ≤ cmpK l[i].key key) : posP l key = i := by
  unfold posP
  rcases Nat.lt_or_ge i l.length with h | h
  · rw [List.findIdx_eq h]
    exact ⟨by simpa using h2 h, fun j hj => by simpa using h1 j (by omega) hj⟩
  · have : i = l.length := by omega
    subst this
    refine List.findIdx_eq_length.2 fun p hp => ?_
    obtain ⟨j, hj, rfl⟩ := List.getElem_of_mem hp
    simpa using h1 j hj hj
theorem posP_lt {l : List Pr} {key : Txt} (j : Nat) (h : j < l.length) (hj : j < posP l key) : cmpK l[j].key key < 0 := by
  have := List.not_of_lt_findIdx hj
  simpa using this
theorem posP_at {l : List Pr} {key : Txt} (h : posP l key < l.length) : 0 ≤ cmpK l[posP l key].key key := by
  have := List.findIdx_getElem (w := h)
  exact of_decide_eq_true this
theorem putP_pos (l : List Pr) (p : Pr) : putP l p = if hasP l p.key = true then l.set (posP l p.key) p else l.take (posP l p.key) ++ p :: l.drop (posP l p.key) := by
  have hle := posP_le l p.key
  rcases Nat.lt_or_ge (posP l p.key) l.length with h | h
  · rw [putP_at l p _ h (fun j hj hji => posP_lt j hj hji) (posP_at h)]
    by_cases h0 : cmpK l[posP l p.key].key p.key = 0
    · have ht : hasP l p.key = true := decide_eq_true ⟨h, h0⟩
      rw [if_pos h0, ht, if_pos rfl, List.set_eq_take_append_cons_drop, if_pos h]
    · have hf : hasP l p.key = false := decide_eq_false fun ⟨_, hh⟩ => h0 hh
      rw [if_neg h0, hf, if_neg (by simp)]
  · have e : posP l p.key = l.length := by omega
    have hf : hasP l p.key = false := decide_eq_false fun ⟨hh, _⟩ => by omega
    rw [hf, if_neg (by simp), e, List.take_length, List.drop_length]
    exact putP_end l p fun j hj => posP_lt j hj (by omega)
theorem mid_eq {i j : Nat} (h : i + j ≤ 4000000) : IntKind.i64.wrap (Int.fdiv (IntKind.u64.wrap (IntKind.i64.wrap ((i : Int) + (j : Int)))) 2) = (((i + j) / 2 : Nat) : Int) := by
  have e1 : IntKind.i64.wrap ((i : Int) + (j : Int)) = ((i + j : Nat) : Int) := by rw [wrap_i64 (by omega) (by omega)]; omega
  have e2 : IntKind.u64.wrap ((i + j : Nat) : Int) = ((i + j : Nat) : Int) := by rw [IntKind.wrap_u64]; omega
  have e3 : Int.fdiv ((i + j : Nat) : Int) 2 = (((i + j) / 2 : Nat) : Int) := by rw [Int.fdiv_eq_ediv_of_nonneg _ (by omega)]; omega
  rw [e1, e2, e3, wrap_i64 (by omega) (by omega)]
def smallP (l : List Pr) : Bool := decide (l.length ≤ 40 ∧ ∀ p ∈ l, p.key.length ≤ 300 ∧ p.v.s.length ≤ 300)
end Go.AL
namespace Go.Proofs.Ytbghpjamahgegaa
open Go.AL
set_option linter.unusedSimpArgs false
set_option linter.unusedVariables false
set_option maxHeartbeats 2000000
set_option maxRecDepth 20000
theorem search_c (l : List Pr) (key : Txt) (hl : l.length ≤ 1000000) (hp : ∀ p ∈ l, p.fit) (hinc : incP l = true) (hk : key.length ≤ 1000000) :
    ACall Try.prog 35 [.slice (prv l) 4 .ro, .str key, .func (.func 36) [] []] Sto.empty fun r _ => Wk r (.tuple [.int .i64 (posP l key : Int), .bool (hasP l key)]) := by
  refine search_i l key _ (.of [byE] rfl ⟨by_ok, trivial⟩) ?_
  have hn : (prv l).length = l.length := prv_length l
  refine loopV_intro (α := Nat × Nat) (fun x => searchL_S l key (prv l).length x.1 x.2) (fun x => x.1 ≤ x.2 ∧ x.2 ≤ l.length ∧ (∀ j (h : j < l.length), j < x.1 → cmpK l[j].key key < 0) ∧ ∀ j (h : j < l.length), x.2 ≤ j → 0 ≤ cmpK l[j].key key) (fun x => x.2 - x.1) ?_ (0, (prv l).length) ⟨Nat.zero_le _, by show (prv l).length ≤ l.length; omega, fun j _ h => by simp at h, fun j h hj => by have hj : (prv l).length ≤ j := hj; omega⟩
  rintro ⟨i, j⟩ ⟨hij, hj, h1, h2⟩ L hL
  have hij : i ≤ j := hij
  have hj : j ≤ l.length := hj
  have h1 : ∀ m (h : m < l.length), m < i → cmpK l[m].key key < 0 := h1
  have h2 : ∀ m (h : m < l.length), j ≤ m → 0 ≤ cmpK l[m].key key := h2
  refine Eq.mpr (searchL_r l key (prv l).length i j L _) ?_
  simp only [hold_eq]
  refine brV_by (fun h => ?_) (fun h => ?_)
  · have hlt : i < j := by have := of_decide_eq_true h; omega
    rw [mid_eq (by omega)]
    generalize hm : (i + j) / 2 = m
    have hmi : i ≤ m := by omega
    have hmj : m < j := by omega
    have hml : m < l.length := by omega
    rw [elemAt_prv l m hml]
    refine gb_by (dt (by omega)) (gb_by rfl ?_)
    intro y hy
    have hy : y = cmpK l[m].key key := hy
    refine gb_by (and_tt (Lt.lenT_mk (hp _ (List.getElem_mem hml)).1) (Lt.lenT_mk hk)) ?_
    refine brV_by (fun h => ?_) (fun h => ?_)
    · have h0 : y < 0 := of_decide_eq_true h
      rw [i64_succ hml (by omega)]
      refine hL (m + 1, j) ⟨by show m + 1 ≤ j; omega, hj, fun q hq hqm => ?_, h2⟩ (by show j - (m + 1) < j - i; omega)
      have hqm : q < m + 1 := hqm
      rcases Nat.lt_or_ge q m with h9 | h9
      · exact cmpK_trans (incP_lt hinc q m hq hml h9) (by omega)
      · obtain rfl : q = m := by omega
        omega
    · have h0 : 0 ≤ y := by have := of_decide_eq_false h; omega
      refine hL (i, m) ⟨hmi, by show m ≤ l.length; omega, h1, fun q hq hqm => ?_⟩ (by show m - i < j - i; omega)
      have hqm : m ≤ q := hqm
      rcases Nat.lt_or_ge m q with h9 | h9
      · have g1 := incP_lt hinc m q hml hq h9
        have g2 := cmpK_swap l[m].key key
        have g3 := cmpK_le_lt (a := key) (by omega) g1
        have g4 := cmpK_swap key l[q].key
        omega
      · obtain rfl : q = m := by omega
        omega
  · have hge : i = j := by have := of_decide_eq_false h; omega
    subst hge
    have e := posP_eq hj h1 (fun h => h2 i h (Nat.le_refl _))
    refine leaveTo (toCut (Eq.mpr (searchF_r l key (prv l).length i _) ?_))
    simp only [hold_eq]
    refine brV_by (fun h => ?_) (fun h => ?_)
    · have hlt : i < l.length := by have := of_decide_eq_true h; omega
      rw [elemAt_prv l i hlt]
      refine gb_by (dt (by omega)) (gb_by rfl ?_)
      intro y hy
      have hy : y = cmpK l[i].key key := hy
      refine gb_by (and_tt (Lt.lenT_mk (hp _ (List.getElem_mem hlt)).1) (Lt.lenT_mk hk)) ?_
      have eh : hasP l key = (y == 0) := by
        unfold hasP
        rw [Bool.eq_iff_iff, decide_eq_true_eq, beq_iff_eq]
        simp only [e]
        exact ⟨fun ⟨_, h⟩ => by omega, fun h => ⟨hlt, by omega⟩⟩
      rw [e, eh]
      exact Wk.refl _
    · have hgl : ¬ i < l.length := by have := of_decide_eq_false h; omega
      have eh : hasP l key = false := decide_eq_false fun ⟨h, _⟩ => by omega
      rw [e, eh]
      exact Wk.refl _
end Go.Proofs.Ytbghpjamahgegaa
end

section
namespace Go.AL
set_option linter.unusedSimpArgs false
set_option linter.unusedVariables false
/-- Cells, with X laid in at I. -/
def insX (E : List AVal) (I : Nat) (X : List AVal) : List AVal := E.take I ++ (X ++ E.drop I)
theorem setRange_mid (A B C X : List AVal) (h : B.length = X.length) : setRange (A ++ (B ++ C)) A.length X = A ++ (X ++ C) := by
  unfold setRange
  rw [List.take_left]
  have : (A ++ (B ++ C)).drop (A.length + X.length) = C := by
    rw [← List.append_assoc, ← h, ← List.length_append, List.drop_left]
  rw [this, List.append_assoc]
theorem insX_shift {E J X : List AVal} {I : Nat} (hI : I ≤ E.length) (hJ : X.length ≤ J.length) :
    setRange (setRange (E ++ J) (I + X.length) (((E ++ J).drop I).take (E.length - I))) I X = insX E I X ++ J.drop X.length := by
  have h1 : ((E ++ J).drop I).take (E.length - I) = E.drop I := by
    rw [List.drop_append_of_le_length hI, List.take_append_of_le_length (by simp), List.take_of_length_le (by simp)]
  rw [h1]
  have hl : (E.take I).length = I := by simp; omega
  -- the row as: ahead, room for X, room for the rest
  have e0 : E ++ J = (E ++ J).take (I + X.length) ++ (((E ++ J).drop (I + X.length)).take (E.drop I).length ++ J.drop X.length) := by
    have : ((E ++ J).drop (I + X.length)).drop (E.drop I).length = J.drop X.length := by
      rw [List.drop_drop, show I + X.length + (E.drop I).length = E.length + X.length by simp; omega, List.drop_append, List.drop_of_length_le (by omega), List.nil_append]
      congr 1; omega
    rw [← this, List.take_append_drop, List.take_append_drop]
  have hA : ((E ++ J).take (I + X.length)).length = I + X.length := by simp; omega
  have e1 : setRange (E ++ J) (I + X.length) (E.drop I) = (E ++ J).take (I + X.length) ++ (E.drop I ++ J.drop X.length) := by
    conv => lhs; rw [e0]
    have := setRange_mid ((E ++ J).take (I + X.length)) (((E ++ J).drop (I + X.length)).take (E.drop I).length) (J.drop X.length) (E.drop I) (by simp; omega)
    rw [hA] at this
    exact this
  rw [e1]
  have e2 : (E ++ J).take (I + X.length) = E.take I ++ ((E ++ J).drop I).take X.length := by
    rw [List.take_add, List.take_append_of_le_length hI]
  rw [e2, List.append_assoc]
  have := setRange_mid (E.take I) (((E ++ J).drop I).take X.length) (E.drop I ++ J.drop X.length) X (by simp; omega)
  rw [hl] at this
  rw [this, insX, List.append_assoc, List.append_assoc]
theorem insX_mid {E J U X R : List AVal} {I : Nat} (hI : I ≤ E.length) (hR : R.length = E.length + X.length - I) :
    setRange (setRange ((E ++ J).take I ++ R ++ U) I X) (I + X.length) (((E ++ J).drop I).take (E.length - I)) = insX E I X ++ U := by
  have h1 : ((E ++ J).drop I).take (E.length - I) = E.drop I := by
    rw [List.drop_append_of_le_length hI, List.take_append_of_le_length (by simp), List.take_of_length_le (by simp)]
  have hl : (E.take I).length = I := by simp; omega
  rw [h1, List.take_append_of_le_length hI]
  have e0 : E.take I ++ R ++ U = E.take I ++ (R.take X.length ++ (R.drop X.length ++ U)) := by
    rw [← List.append_assoc (R.take _), List.take_append_drop, List.append_assoc]
  have e1 := setRange_mid (E.take I) (R.take X.length) (R.drop X.length ++ U) X (by simp; omega)
  rw [hl] at e1
  rw [e0, e1, ← List.append_assoc]
  have e2 := setRange_mid (E.take I ++ X) (R.drop X.length) U (E.drop I) (by simp; omega)
  rw [List.length_append, hl] at e2
  rw [e2, insX]
  simp
theorem insX_end {E J X : List AVal} (hJ : X.length ≤ J.length) : setRange (E ++ J) E.length X = insX E E.length X ++ J.drop X.length := by
  have := setRange_mid E (J.take X.length) (J.drop X.length) X (by simp; omega)
  rw [List.take_append_drop] at this
  rw [this, insX, List.take_length, List.drop_length, List.append_nil, List.append_assoc]
theorem flat_prv (l : List Pr) : flat (prv l) = l.flatMap fun p => [.str p.key, .int .i64 p.v.k, .int .i64 p.v.n, .str p.v.s] := by
  unfold flat prv
  rw [List.flatMap_map]
  rfl
theorem flat_prv_length (l : List Pr) : (flat (prv l)).length = l.length * 4 := by
  rw [flat_prv]
  induction l with
  | nil => rfl
  | cons p l ih => rw [List.flatMap_cons, List.length_append, ih]; simp; omega
theorem flat_prv_append (a b : List Pr) : flat (prv (a ++ b)) = flat (prv a) ++ flat (prv b) := by
  rw [flat_prv, flat_prv, flat_prv, List.flatMap_append]
theorem flat_prv_take (l : List Pr) (i : Nat) (hi : i ≤ l.length) : flat (prv (l.take i)) = (flat (prv l)).take (i * 4) := by
  conv => rhs; rw [← List.take_append_drop i l, flat_prv_append]
  have h : (flat (prv (l.take i))).length = i * 4 := by rw [flat_prv_length]; simp; omega
  rw [← h, List.take_left]
theorem flat_prv_drop (l : List Pr) (i : Nat) (hi : i ≤ l.length) : flat (prv (l.drop i)) = (flat (prv l)).drop (i * 4) := by
  conv => rhs; rw [← List.take_append_drop i l, flat_prv_append]
  have h : (flat (prv (l.take i))).length = i * 4 := by rw [flat_prv_length]; simp; omega
  rw [← h, List.drop_left]
theorem insX_prv (l : List Pr) (i : Nat) (p : Pr) (hi : i ≤ l.length) : insX (flat (prv l)) (i * 4) [.str p.key, .int .i64 p.v.k, .int .i64 p.v.n, .str p.v.s] = flat (prv (insL l i p)) := by
  unfold insX insL
  rw [← flat_prv_take l i hi, ← flat_prv_drop l i hi]
  rw [flat_prv_append, flat_prv (p :: l.drop i), List.flatMap_cons, ← flat_prv]
theorem noLocL_flat_prv (l : List Pr) : noLocL (flat (prv l)) = true := by
  rw [flat_prv]
  induction l with
  | nil => rfl
  | cons p l ih => rw [List.flatMap_cons]; simpa [noLocL, AVal.noLoc] using ih
end Go.AL
end

section
namespace Go.Proofs.Ytbghpjamahgegaa
open Go.AL
set_option linter.unusedSimpArgs false
set_option linter.unusedVariables false
set_option maxHeartbeats 4000000
set_option maxRecDepth 20000
theorem dtt {b : Bool} (h : b = true) : decide (b = true ∧ True) = true := by subst h; rfl
theorem ovOk_of {g : FuncId} {fn : Func} {T e : TypeId} (h1 : Try.prog.funcs[g]? = some fn) (h2 : (fn.name == "runtime.NumGoroutine") = false) (h3 : fn.body.isNone = true) (h4 : Extern.findNext fn = none)
    (h5 : Extern.find fn = some (Extern.SlicesOverlaps.overlaps fn.params fn.resultTypes)) (h6 : fn.params[0]? = some T) (h7 : Try.prog.underlying T = some (.slice e)) (h8 : (Try.prog.info? e).isSome = true) : OvOk Try.prog g := by
  obtain ⟨inf, hi⟩ := Option.isSome_iff_exists.1 h8
  exact ⟨fn, T, e, inf, h1, h2, h3, h4, h5, h6, h7, hi⟩
theorem ovOkP (g : FuncId) (h : isOvP g = true) : OvOk Try.prog g := by
  have e := Nat.eq_of_beq_eq_true h
  subst e
  exact ovOk_of (fn := Try.f55) (T := 22) (e := 37) (by kernel_rfl) (by kernel_rfl) (by kernel_rfl) (by kernel_rfl) (by kernel_rfl) (by kernel_rfl) (by kernel_rfl) (by kernel_rfl)
def pcells (p : Pr) : List AVal := [.str p.key, .int .i64 p.v.k, .int .i64 p.v.n, .str p.v.s]
theorem rep4_length (n : Nat) : (flat (List.replicate n (AVal.agg [AVal.str [], AVal.int .i64 0, AVal.int .i64 0, AVal.str []]))).length = n * 4 := by
  induction n with
  | zero => rfl
  | succ n ih =>
    rw [List.replicate_succ, show flat (AVal.agg [AVal.str [], AVal.int .i64 0, AVal.int .i64 0, AVal.str []] :: List.replicate n (AVal.agg [AVal.str [], AVal.int .i64 0, AVal.int .i64 0, AVal.str []])) = [AVal.str [], AVal.int .i64 0, AVal.int .i64 0, AVal.str []] ++ flat (List.replicate n (AVal.agg [AVal.str [], AVal.int .i64 0, AVal.int .i64 0, AVal.str []])) from rfl, List.length_append, ih]
    simp; omega
theorem rep4_noLoc (n : Nat) : noLocL (flat (List.replicate n (AVal.agg [AVal.str [], AVal.int .i64 0, AVal.int .i64 0, AVal.str []]))) = true := by
  induction n with
  | zero => rfl
  | succ n ih =>
    rw [List.replicate_succ, show flat (AVal.agg [AVal.str [], AVal.int .i64 0, AVal.int .i64 0, AVal.str []] :: List.replicate n (AVal.agg [AVal.str [], AVal.int .i64 0, AVal.int .i64 0, AVal.str []])) = [AVal.str [], AVal.int .i64 0, AVal.int .i64 0, AVal.str []] ++ flat (List.replicate n (AVal.agg [AVal.str [], AVal.int .i64 0, AVal.int .i64 0, AVal.str []])) from rfl]
    exact noLocL_append rfl ih
theorem insP_c (l : List Pr) (i : Nat) (p : Pr) (hi : i ≤ l.length) (hl : l.length ≤ 1000000) (J : List AVal) (hJ : noLocL J = true) (c : Nat) (hj : l.length * 4 + J.length = c * 4) (hcm : c ≤ 9223372036854775807) :
    ACall Try.prog 37 [.arr (.out 0) 0 l.length c, .int .i64 (i : Int), .slice [p.a] 4 .ro] (Sto.one (.cells (flat (prv l) ++ J))) fun r τ =>
      ∃ o cap tl, r = .arr (.out o) 0 (l.length + 1) cap ∧ τ.obj o = some (.cells (flat (prv (insL l i p)) ++ tl)) ∧ (l.length + 1) * 4 + tl.length = cap * 4 ∧ cap ≤ 9223372036854775807 := by
  refine insP_i _ l.length c i p _ (.ofX [] rfl trivial ovOkP) ?_
  have w1 : IntKind.i64.wrap ((l.length : Int) + ((1 : Nat) : Int)) = ((l.length + 1 : Nat) : Int) := by rw [wrap_i64 (by omega) (by omega)]; rfl
  have w2 : IntKind.i64.wrap (((l.length + 1 : Nat) : Int) - (i : Int)) = ((l.length + 1 - i : Nat) : Int) := by rw [wrap_i64 (by omega) (by omega)]; omega
  have w3 : IntKind.i64.wrap ((i : Int) + ((1 : Nat) : Int)) = ((i + 1 : Nat) : Int) := by rw [wrap_i64 (by omega) (by omega)]; rfl
  have m1 : min 1 (i + (l.length + 1 - i) - i) = 1 := by omega
  have m2 : min (l.length - i) (i + (l.length + 1 - i) - (i + 1)) = l.length - i := by omega
  have m3 : min (l.length - i) (l.length + 1 - (i + 1)) = l.length - i := by omega
  have m4 : min 1 (l.length + 1 - i) = 1 := by omega
  have m5 : min (l.length + 1 - i) (l.length + 1 - (i + 1)) = l.length - i := by omega
  have hE := flat_prv_length l
  have hEl := noLocL_flat_prv l
  have hX : [AVal.str p.key, .int .i64 p.v.k, .int .i64 p.v.n, .str p.v.s] = pcells p := rfl
  have hXl : (pcells p).length = 4 := rfl
  have hXn : noLocL (pcells p) = true := rfl
  have ht : (pcells p).take (1 * 4) = pcells p := rfl
  have hins := insX_prv l i p hi
  simp only [hold_eq, w1, w2, w3, Int.toNat_natCast, Nat.sub_zero, Nat.zero_add, m1, m2, m3, m4, m5, one_set, hX, ht]
  rw [hX] at hins
  generalize pcells p = X at *
  generalize flat (prv l) = E at *
  generalize hG : flat (prv (insL l i p)) = G at *
  have hXf : flat [AVal.agg X] = X := by simp [flat, AVal.cells]
  have hlc : (E ++ J).length = c * 4 := by rw [List.length_append, hE]; omega
  refine gb_by (dt (by omega)) ?_
  refine brV_by (fun h => by cases h) fun _ => ?_
  refine brV_by (fun h => ?_) (fun h => ?_)
  · have he : i = l.length := by simp at h; omega
    subst he
    refine gb_by (dt (by omega)) (brV_by (fun h => ?_) (fun h => ?_))
    · have hroom : l.length + 1 ≤ c := by simpa using h
      refine gb_by (dtt (dt ⟨trivial, hroom, by rw [hlc]; omega, fun _ => by rw [hXf]; exact hXn⟩)) ?_
      have := insX_end (E := E) (J := J) (X := X) (by omega)
      rw [hE, hins] at this
      exact ⟨0, c, J.drop X.length, rfl, by rw [this]; rfl, by simp; omega, hcm⟩
    · refine gb_by (dt (by omega)) fun k hk => gb_by (dt ⟨?_, by omega⟩) ?_
      · exact noLocL_append (noLocL_append (noLocL_take _ (noLocL_append hEl hJ)) hXn) (noLocL_undefs _)
      · refine ⟨1, l.length + 1 + k, List.replicate (k * 4) .undef, rfl, ?_, by simp; omega, by omega⟩
        rw [← hins, insX, ← hE, List.take_left, List.take_length, List.drop_length, List.append_nil]
        rfl
  · have hne : i < l.length := by simp at h; omega
    have hNL : noLocL (E ++ J) = true := noLocL_append hEl hJ
    have hRl := rep4_length (l.length + 1 - i)
    have hRn := rep4_noLoc (l.length + 1 - i)
    generalize flat (List.replicate (l.length + 1 - i) (AVal.agg [AVal.str [], AVal.int .i64 0, AVal.int .i64 0, AVal.str []])) = R at *
    have hI : i * 4 ≤ E.length := by omega
    have eI : E.length - i * 4 = (l.length - i) * 4 := by omega
    have eX : i * 4 + X.length = (i + 1) * 4 := by omega
    refine brV_by (fun h => ?_) (fun h => ?_)
    · have hroom : c < l.length + 1 := by have := of_decide_eq_true h; omega
      refine gb_by (dt (by omega)) (gb_by (and_tt (dt (by omega)) (dt (by rw [hlc]; omega))) (gb_by (dt (by omega)) fun k hk => ?_))
      have hUl : (List.take (i * 4) (E ++ J) ++ R ++ List.replicate (k * 4) AVal.undef).length = (l.length + 1 + k) * 4 := by
        rw [List.length_append, List.length_append, List.length_take, hlc, hRl, List.length_replicate]; omega
      have hUn : noLocL (List.take (i * 4) (E ++ J) ++ R ++ List.replicate (k * 4) AVal.undef) = true := noLocL_append (noLocL_append (noLocL_take _ hNL) hRn) (noLocL_undefs _)
      have hSl : (setRange (List.take (i * 4) (E ++ J) ++ R ++ List.replicate (k * 4) AVal.undef) (i * 4) X).length = (l.length + 1 + k) * 4 := by rw [setRange_length (by rw [hUl]; omega), hUl]
      have fin := insX_mid (E := E) (J := J) (U := List.replicate (k * 4) AVal.undef) (X := X) (R := R) (I := i * 4) hI (by omega)
      rw [eI, eX, hins] at fin
      refine gb_by (dt ⟨hUn, by omega⟩) (gb_by (dt (by omega)) (gb_by (dtt (dt ⟨trivial, by rw [hUl]; omega, fun _ => noLocL_take _ (by rw [hXf]; exact hXn)⟩)) (gb_by (dt (by omega)) (gb_by (dt (by omega)) (gb_by (dtt (dt ⟨dt (by rw [hlc]; omega), by rw [hSl]; omega, fun _ => noLocL_take _ (noLocL_take _ (noLocL_drop _ hNL))⟩)) ?_)))))
      refine ⟨1, i + (l.length + 1 - i) + k, List.replicate (k * 4) .undef, ?_, ?_, by simp; omega, by omega⟩
      · congr 1; omega
      · rw [← fin]
        simp only [List.take_take, Nat.min_self]
        rfl
    · have hroom : l.length + 1 ≤ c := by have := of_decide_eq_false h; omega
      have hD : List.take ((l.length - i) * 4) (List.take ((l.length + 1 - i) * 4) (List.drop (i * 4) (E ++ J))) = List.take ((l.length - i) * 4) (List.drop (i * 4) (E ++ J)) := by
        rw [List.take_take, Nat.min_eq_left (by omega)]
      rw [hD]
      have hDl : (List.take ((l.length - i) * 4) (List.drop (i * 4) (E ++ J))).length = (l.length - i) * 4 := by
        rw [List.length_take, List.length_drop, hlc]; omega
      have hSl : (setRange (E ++ J) ((i + 1) * 4) (List.take ((l.length - i) * 4) (List.drop (i * 4) (E ++ J)))).length = c * 4 := by rw [setRange_length (by rw [hDl, hlc]; omega), hlc]
      have fin := insX_shift (E := E) (J := J) (X := X) (I := i * 4) hI (by omega)
      rw [eI, eX, hins] at fin
      refine gb_by (dt (by omega)) (gb_by (dt (by omega)) (gb_by (dt ⟨by omega, by rw [hlc]; omega⟩) (gb_by (dt (by omega)) (gb_by (dt (by omega)) (gb_by (dtt (dt ⟨dt (by rw [hlc]; omega), by rw [hlc]; omega, fun _ => noLocL_take _ (noLocL_take _ (noLocL_drop _ hNL))⟩)) (gb_by (dt (by omega)) (gb_by (dtt (dt ⟨trivial, by rw [hSl]; omega, fun _ => noLocL_take _ (by rw [hXf]; exact hXn)⟩)) ?_)))))))
      refine ⟨0, c, J.drop X.length, rfl, ?_, by simp; omega, hcm⟩
      rw [fin]
      rfl
end Go.Proofs.Ytbghpjamahgegaa
end

section
namespace Go.AL
set_option linter.unusedSimpArgs false
set_option linter.unusedVariables false
def pval (p : Pr) : List Value := [.string ⟨p.key.toArray⟩, .int .i64 p.v.k, .int .i64 p.v.n, .string ⟨p.v.s.toArray⟩]
def pvals (l : List Pr) : List Value := l.flatMap pval
theorem pvals_length (l : List Pr) : (pvals l).length = l.length * 4 := by
  unfold pvals
  induction l with
  | nil => rfl
  | cons p l ih => rw [List.flatMap_cons, List.length_append, ih]; simp [pval]; omega
theorem pvals_one (l : List Pr) : ∀ v ∈ pvals l, v.oneCell' = true := by
  intro v hv
  unfold pvals at hv
  obtain ⟨p, _, hv⟩ := List.mem_flatMap.1 hv
  simp only [pval, List.mem_cons, List.not_mem_nil, or_false] at hv
  rcases hv with rfl | rfl | rfl | rfl <;> rfl
/-- A row of one's own, at a block from base on; or a list without elements. -/
def RowP (w : World) (base : Nat) (v : Value) (l : List Pr) : Prop :=
  (l = [] ∧ ∃ a, v = .slice a 0 0) ∨
  ∃ g cap junk T, v = .slice (some ⟨g, 0, none⟩) l.length cap ∧ base ≤ g ∧ w.heap[g]? = some (.cells (pvals l ++ junk).toArray T (0, 0)) ∧ l.length * 4 + junk.length = cap * 4 ∧ cap ≤ 9223372036854775807 ∧ ∀ v ∈ junk, v.oneCell' = true
theorem repL_prv {γ : Gh} {w : World} {b : Bool} : ∀ (l : List Pr) (tl : List AVal) (junk : List Value), RepL γ w b tl junk → RepL γ w b (flat (prv l) ++ tl) (pvals l ++ junk)
  | [], tl, junk, h => h
  | p :: l, tl, junk, h => by
    have ih := repL_prv l tl junk h
    rw [flat_prv] at ih ⊢
    exact .cons (.str _ _) (.cons (.int _ _ _) (.cons (.int _ _ _) (.cons (.str _ _) ih)))
theorem repL_undefs {γ : Gh} {w : World} {b : Bool} : ∀ junk : List Value, RepL γ w b (List.replicate junk.length .undef) junk
  | [] => .nil _
  | v :: r => .cons (.undef _ _) (repL_undefs r)
theorem repL_prv_inv {γ : Gh} {w : World} {b : Bool} : ∀ (l : List Pr) (tl : List AVal) (vs : List Value), RepL γ w b (flat (prv l) ++ tl) vs → ∃ junk, vs = pvals l ++ junk ∧ junk.length = tl.length
  | [], tl, vs, h => ⟨vs, rfl, h.length.symm⟩
  | p :: l, tl, vs, h => by
    rw [flat_prv, List.flatMap_cons, List.append_assoc, ← flat_prv] at h
    cases h with
    | cons h1 h =>
      cases h with
      | cons h2 h =>
        cases h with
        | cons h3 h =>
          cases h with
          | cons h4 h =>
            obtain ⟨junk, e1, e2⟩ := repL_prv_inv l tl _ h
            cases h1; cases h2; cases h3; cases h4
            exact ⟨junk, by rw [e1]; rfl, e2⟩
theorem RowP.rep {w : World} {base : Nat} {v : Value} {l : List Pr} (h : RowP w base v l) : Rep (Gh.top w) w false (.slice (prv l) 4 .ro) v := by
  rcases h with ⟨rfl, a, rfl⟩ | ⟨g, cap, junk, T, rfl, hb, hg, hn, hc, hj⟩
  · exact .sliceNil trivial (.inr rfl)
  · have hgs : g < w.heap.size := (Array.getElem?_eq_some_iff.1 hg).1
    have key := Rep.sliceRow (γ := Gh.top w) (w := w) (l := false) (es := prv l) (s := 4) (tag := .ro) (b := g) (off := 0) (cap := cap) (vs := pvals l)
      (by have := repL_prv (γ := Gh.top w) (w := w) (b := false) l [] [] (.nil _); simpa using this)
      (fun e he => by obtain ⟨x, _, rfl⟩ := List.mem_map.1 he; rfl)
      (fun j v hj' => by
        refine ⟨hgs, ?_⟩
        rw [Nat.zero_add]
        have hlt : j < (pvals l).length := by
          rcases Nat.lt_or_ge j (pvals l).length with h1 | h1
          · exact h1
          · rw [List.getElem?_eq_none h1] at hj'; cases hj'
        simp only [World.cell?, hg]
        rw [List.getElem?_toArray, List.getElem?_append_left hlt]
        exact hj')
      (pvals_one l)
      (by simp; omega) (by unfold maxLen; omega) trivial
    simpa using key
end Go.AL
end

section
namespace Go.Proofs.Ytbghpjamahgegaa
open Go.AL
set_option linter.unusedSimpArgs false
set_option linter.unusedVariables false
set_option maxHeartbeats 2000000
set_option maxRecDepth 20000
theorem cloneP_c (l : List Pr) (hl : l.length ≤ 1000000) : ACall Try.prog 32 [.slice (prv l) 4 .ro] Sto.empty fun r τ =>
    (l = [] ∧ ∃ s', r = .slice [] s' .nil ∨ r = .slice [] s' .full) ∨ ∃ k jk, r = .arr (.out 0) 0 l.length (l.length + k) ∧ τ.obj 0 = some (.cells (flat (prv l) ++ jk)) ∧ jk.length = k * 4 ∧ l.length + k ≤ 9223372036854775807 := by
  have hn : (prv l).length = l.length := prv_length l
  have hnil : prv l = [] → l = [] := fun h => List.eq_nil_of_length_eq_zero (by rw [← hn, h]; rfl)
  refine cloneP_i Sto.empty l _ (.of_none rfl) ?_
  simp only [hold_eq, true_and]
  intro b hb _
  refine brV_by (fun h => ?_) (fun h => ?_)
  · have hb1 : b = true := by simpa using h
    exact .inl ⟨hnil (List.isEmpty_iff.1 (hb hb1)), 0, .inl rfl⟩
  · refine brV_by (fun h => ?_) (fun h => ?_)
    · exact .inl ⟨hnil (List.eq_nil_of_length_eq_zero (by simpa using h)), 4, .inr rfl⟩
    · refine gb_by (dt (by omega)) fun k hk => gb_by (dt ⟨?_, by omega⟩) (.inr ⟨k, List.replicate (k * 4) .undef, ?_, rfl, by simp, by omega⟩)
      · simp only [AObj.noLoc]
        exact noLocL_append (noLocL_flat_prv l) (noLocL_undefs _)
      · simp only [Nat.zero_add, hn]; rfl
theorem clone_k (l : List Pr) (hl : l.length ≤ 1000000) {w : World} (hA : Known w) {v : Value} (hv : Rep (Gh.top w) w false (.slice (prv l) 4 .ro) v) :
    Calls Try.prog 32 #[v] w fun e w' => ∃ u, e = .returned u ∧ RowP w' w.heap.size u l ∧ Go.RowKit.Below w.heap.size w w' := by
  refine (ACall.topMade (cloneP_c l hl) hA (us := [v]) (.cons hv (.nil _))).mono fun e w' ⟨u, r, γ', σ', e1, e2, e3, e4, e5⟩ => ⟨u, e1, ?_, e4⟩
  rcases e3 with ⟨rfl, s', h⟩ | ⟨k, jk, rfl, h1, h2, h3⟩
  · left
    refine ⟨rfl, ?_⟩
    have key : ∀ t, r = .slice [] s' t → (t = .nil ∨ t = .full) → ∃ a, u = .slice a 0 0 := by
      intro t hrt ht
      subst hrt
      generalize hel : ([] : List AVal) = el at e2
      cases e2 with
      | sliceRow hr hs hc h1 hnc hm htr =>
        subst hel
        rcases ht with rfl | rfl
        · exact htr.elim
        · have : _ = 0 := htr
          subst this
          exact ⟨_, rfl⟩
      | sliceNil => exact ⟨_, rfl⟩
    rcases h with h | h
    · exact key _ h (.inl rfl)
    · exact key _ h (.inr rfl)
  · obtain ⟨b, vs, T, g1, g2, g3, g4, g5⟩ := e5 0 _ h1
    obtain ⟨junk, rfl, hj⟩ := repL_prv_inv l jk vs g3
    cases e2 with
    | arr hb ho hc h0 =>
      rw [g1] at hb; cases hb
      rcases Nat.eq_zero_or_pos (l.length + k) with hz | hz
      · left
        have hl0 : l = [] := List.eq_nil_of_length_eq_zero (by omega)
        subst hl0
        have hk : k = 0 := by simp at hz; exact hz
        subst hk
        exact ⟨rfl, _, rfl⟩
      · right
        have := h0 hz
        subst this
        exact ⟨b, l.length + k, junk, T, rfl, g5, g2, by omega, h3, fun v hv => g4 v (List.mem_append_right _ hv)⟩
end Go.Proofs.Ytbghpjamahgegaa
end

section
namespace Go.Proofs.Ytbghpjamahgegaa
open Go.AL
set_option linter.unusedSimpArgs false
set_option linter.unusedVariables false
set_option maxHeartbeats 2000000
set_option maxRecDepth 20000
theorem known_any (w : World) : Known w := ⟨fun x hx => (by cases hx), fun x hx => (by cases hx), fun x hx => (by cases hx)⟩
theorem insPH_c (p : Pr) : ACall Try.prog 37 [.slice [] 4 .full, .int .i64 ((0 : Nat) : Int), .slice [p.a] 4 .ro] Sto.empty fun r τ =>
    ∃ k jk, r = .arr (.out 0) 0 1 (1 + k) ∧ τ.obj 0 = some (.cells (flat (prv [p]) ++ jk)) ∧ jk.length = k * 4 ∧ 1 + k ≤ 9223372036854775807 := by
  refine insPH_i 0 p _ (.ofX [] rfl trivial ovOkP) ?_
  simp only [hold_eq]
  refine gb_by (dt (by omega)) ?_
  refine brV_by (fun h => by cases h) fun _ => ?_
  refine brV_by (fun h => ?_) (fun h => by simp at h)
  refine brV_by (fun h => by cases h) fun _ => ?_
  refine gb_by rfl fun k hk => gb_by (dt ⟨?_, by omega⟩) ⟨k, List.replicate (k * 4) .undef, rfl, rfl, by simp, by omega⟩
  simp only [AObj.noLoc]
  exact noLocL_append rfl (noLocL_undefs _)
theorem rep_one {γ : Gh} {w : World} {p : Pr} {q : Nat} {T : TypeId} (hq : w.heap[q]? = some (.cells (pval p).toArray T (0, 0))) (hi : ∀ o, γ.imm q o) : Rep γ w false (.slice [p.a] 4 .ro) (.slice (some ⟨q, 0, none⟩) 1 1) := by
  refine Rep.sliceRow (es := [p.a]) (vs := pval p) (cap := 1) ?_ (fun e he => by cases he with | head => rfl | tail _ h => cases h) (fun j v hj => ⟨hi _, ?_⟩) (fun v hv => ?_) (Nat.le_refl _) (by unfold maxLen; omega) trivial
  · exact .cons (.str _ _) (.cons (.int _ _ _) (.cons (.int _ _ _) (.cons (.str _ _) (.nil _))))
  · simp only [World.cell?, hq, Nat.zero_add]
    rw [List.getElem?_toArray]
    exact hj
  · simp only [pval, List.mem_cons, List.not_mem_nil, or_false] at hv
    rcases hv with rfl | rfl | rfl | rfl <;> rfl
theorem row_of {γ : Gh} {w' : World} {base o n cap : Nat} {l : List Pr} {tl : List AVal} {r : AVal} {u : Value} (hn : n = l.length) (hr : r = .arr (.out o) 0 n cap) (hrep : Rep γ w' false r u)
    (hb : ∃ b vs' T', γ.obj (.out o) = some b ∧ w'.heap[b]? = some (.cells vs'.toArray T' (0, 0)) ∧ RepL γ w' false (flat (prv l) ++ tl) vs' ∧ (∀ v ∈ vs', v.oneCell' = true) ∧ base ≤ b)
    (hc : l.length * 4 + tl.length = cap * 4) (hcm : cap ≤ 9223372036854775807) : RowP w' base u l := by
  subst hn hr
  obtain ⟨b, vs, T, g1, g2, g3, g4, g5⟩ := hb
  obtain ⟨junk, rfl, hj⟩ := repL_prv_inv l tl vs g3
  cases hrep with
  | arr hb ho hc' h0 =>
    rw [g1] at hb; cases hb
    rcases Nat.eq_zero_or_pos cap with hz | hz
    · left
      subst hz
      have hl0 : l = [] := List.eq_nil_of_length_eq_zero (by omega)
      subst hl0
      exact ⟨rfl, _, rfl⟩
    · right
      have := h0 hz
      subst this
      exact ⟨b, cap, junk, T, rfl, g5, g2, by omega, hcm, fun v hv => g4 v (List.mem_append_right _ hv)⟩
theorem insert_k (l : List Pr) (i : Nat) (p : Pr) (hi : i ≤ l.length) (hl : l.length ≤ 1000000) {w : World} {base : Nat} {v : Value} (hbase : base ≤ w.heap.size) (hrow : RowP w base v l) {q : Nat} {T : TypeId}
    (hq : w.heap[q]? = some (.cells (pval p).toArray T (0, 0))) (hne : ∀ g n c, v = .slice (some ⟨g, 0, none⟩) n c → 0 < c → g ≠ q) :
    Calls Try.prog 37 #[v, .int .i64 (i : Int), .slice (some ⟨q, 0, none⟩) 1 1] w fun e w' => ∃ u, e = .returned u ∧ RowP w' base u (insL l i p) ∧ Go.RowKit.Below base w w' := by
  have hqs : q < w.heap.size := (Array.getElem?_eq_some_iff.1 hq).1
  have hil : (insL l i p).length = l.length + 1 := by simp [insL]; omega
  have empty : ∀ a, l = [] → v = .slice a 0 0 → Calls Try.prog 37 #[v, .int .i64 (i : Int), .slice (some ⟨q, 0, none⟩) 1 1] w fun e w' => ∃ u, e = .returned u ∧ RowP w' base u (insL l i p) ∧ Go.RowKit.Below base w w' := by
    rintro a rfl rfl
    have hi0 : i = 0 := by simpa using hi
    subst hi0
    refine (ACall.topMade (insPH_c p) (known_any w) (us := [.slice a 0 0, .int .i64 ((0 : Nat) : Int), .slice (some ⟨q, 0, none⟩) 1 1]) (.cons (.sliceNil trivial (.inr rfl)) (.cons (.int _ _ _) (.cons (rep_one hq (fun o => hqs)) (.nil _))))).mono ?_
    rintro e w' ⟨u, r, γ', σ', rfl, hrep, ⟨k, jk, rfl, h1, h2, h3⟩, hbl, hobj⟩
    obtain ⟨b, vs, T, g1, g2, g3, g4, g5⟩ := hobj 0 _ h1
    exact ⟨u, rfl, row_of (by rw [hil]; rfl) rfl hrep ⟨b, vs, T, g1, g2, g3, g4, by omega⟩ (by rw [hil]; simp; omega) h3, hbl.mono hbase⟩
  rcases hrow with ⟨h1, a, h2⟩ | ⟨g, cap, junk, T', rfl, hb, hg, hn, hc, hj⟩
  · exact empty a h1 h2
  · rcases Nat.eq_zero_or_pos cap with hz | hz
    · subst hz
      have : l = [] := List.eq_nil_of_length_eq_zero (by omega)
      subst this
      exact empty _ rfl rfl
    · have hgq : g ≠ q := hne g _ _ rfl hz
      have hamb : Amb (Gh.row w g) w := Amb.row (known_any w) (fun x hx => by cases hx) (fun x hx => by cases hx) (fun x hx => by cases hx)
      have hl4 : l.length * 4 + (List.replicate junk.length AVal.undef).length = cap * 4 := by simp; omega
      refine (ACall.topRow (insP_c l i p hi hl (List.replicate junk.length .undef) (noLocL_undefs _) cap hl4 hc) hamb hg (repL_prv l _ _ (repL_undefs junk)) (fun v hv => ?_)
        (us := [.slice (some ⟨g, 0, none⟩) l.length cap, .int .i64 (i : Int), .slice (some ⟨q, 0, none⟩) 1 1]) (.cons (.arr (b := g) (show (if Oid.out 0 = Oid.out 0 then some g else none) = some g from if_pos rfl) (.inr rfl) (by omega) (fun _ => rfl)) (.cons (.int _ _ _) (.cons (rep_one hq (fun o => ⟨hqs, fun e => hgq e.symm⟩)) (.nil _))))).mono ?_
      · rcases List.mem_append.1 hv with h | h
        · exact pvals_one l v h
        · exact hj v h
      · rintro e w' ⟨u, r, γ', σ', rfl, hrep, ⟨o, cap', tl, rfl, h1, h2, h3⟩, hbl, hobj⟩
        obtain ⟨b, vs, T, g1, g2, g3, g4, g5⟩ := hobj o _ h1
        refine ⟨u, rfl, row_of (by rw [hil]) rfl hrep ⟨b, vs, T, g1, g2, g3, g4, by omega⟩ (by rw [hil]; omega) h3, hbl.mono hb⟩
end Go.Proofs.Ytbghpjamahgegaa
end

section
namespace Go.AL
set_option linter.unusedSimpArgs false
set_option linter.unusedVariables false
/-- A row that is read: as the kit sees it. -/
def RowR (w : World) (v : Value) (l : List Pr) : Prop :=
  (l = [] ∧ ∃ a, v = .slice a 0 0) ∨
  ∃ b off cap, v = .slice (some ⟨b, off, none⟩) l.length cap ∧ l.length ≤ cap ∧ cap ≤ maxLen ∧ ∀ j x, (pvals l)[j]? = some x → w.cell? ⟨b, off + j, none⟩ = some x
theorem incP_cons (p : Pr) (l : List Pr) : incP (p :: l) = true ↔ okP p = true ∧ incP l = true ∧ ∀ q, l.head? = some q → cmpK p.key q.key < 0 := by
  cases l with
  | nil => simp [incP]
  | cons q r => simp only [incP, Bool.and_eq_true, decide_eq_true_eq, List.head?_cons, Option.some.injEq]; exact ⟨fun ⟨a, b, c⟩ => ⟨a, c, fun _ e => e ▸ b⟩, fun ⟨a, b, c⟩ => ⟨a, c q rfl, b⟩⟩
theorem putP_head (p : Pr) : ∀ l q, (putP l p).head? = some q → q = p ∨ l.head? = some q
  | [], q, h => by simp only [putP, List.head?_cons, Option.some.injEq] at h; exact .inl h.symm
  | x :: l, q, h => by
    simp only [putP] at h
    split at h
    · exact .inr h
    · split at h
      · simp only [List.head?_cons, Option.some.injEq] at h; exact .inl h.symm
      · simp only [List.head?_cons, Option.some.injEq] at h; exact .inl h.symm
theorem incP_put (p : Pr) (hp : okP p = true) : ∀ l, incP l = true → incP (putP l p) = true
  | [], _ => by simp [putP, incP, hp]
  | x :: l, h => by
    have h' := (incP_cons x l).1 h
    simp only [putP]
    split
    · rename_i hc
      refine (incP_cons _ _).2 ⟨h'.1, incP_put p hp l h'.2.1, fun q hq => ?_⟩
      rcases putP_head p l q hq with rfl | hq
      · exact hc
      · exact h'.2.2 q hq
    · rename_i hc
      have hs := cmpK_swap p.key x.key
      split
      · rename_i h0
        refine (incP_cons _ _).2 ⟨hp, h'.2.1, fun q hq => cmpK_le_lt (by omega) (h'.2.2 q hq)⟩
      · rename_i h0
        refine (incP_cons _ _).2 ⟨hp, h, fun q hq => ?_⟩
        simp only [List.head?_cons, Option.some.injEq] at hq
        subst hq
        have := cmpK_swap x.key p.key
        omega
theorem putP_length (p : Pr) : ∀ l, (putP l p).length ≤ l.length + 1
  | [] => by simp [putP]
  | x :: l => by
    have := putP_length p l
    simp only [putP]
    split
    · simp; omega
    · split <;> simp
theorem putP_mem (p x : Pr) : ∀ l, x ∈ putP l p → x = p ∨ x ∈ l
  | [], h => by simp only [putP, List.mem_singleton] at h; exact .inl h
  | y :: l, h => by
    simp only [putP] at h
    split at h
    · rcases List.mem_cons.1 h with h | h
      · exact .inr (h ▸ List.mem_cons_self)
      · exact (putP_mem p x l h).imp id (List.mem_cons_of_mem _)
    · split at h
      · rcases List.mem_cons.1 h with h | h
        · exact .inl h
        · exact .inr (List.mem_cons_of_mem _ h)
      · rcases List.mem_cons.1 h with h | h
        · exact .inl h
        · exact .inr h
theorem laysP_name {p : Pr} (h : nameT p.key = false) (acc l : List Pr) : laysP acc (p :: l) = ([], 30) := by simp [laysP, h]
theorem laysP_val {p : Pr} (h : nameT p.key = true) (h2 : okV p.v = false) (acc l : List Pr) : laysP acc (p :: l) = ([], 22) := by simp [laysP, h, h2]
theorem laysP_put {p : Pr} (h : nameT p.key = true) (h2 : okV p.v = true) (acc l : List Pr) : laysP acc (p :: l) = laysP (putP acc p) l := by simp [laysP, h, h2]
theorem setP_err {l news : List Pr} {e : Int} (hr : rightP l = true) (h : laysP l news = ([], e)) (he : e ≠ 0) : setP l news = ([], e) := by simp [setP, hr, h, he]
theorem setP_many {l news acc : List Pr} (hr : rightP l = true) (h : laysP l news = (acc, 0)) (he : 16 < acc.length) : setP l news = ([], 32) := by simp [setP, hr, h, he]
theorem setP_ok {l news acc : List Pr} (hr : rightP l = true) (h : laysP l news = (acc, 0)) (he : ¬ 16 < acc.length) : setP l news = (acc, 0) := by simp only [setP, hr, h]; simp [he]
theorem RowR.rep {w : World} {v : Value} {l : List Pr} (h : RowR w v l) : Rep (Gh.top w) w false (.slice (prv l) 4 .ro) v := by
  rcases h with ⟨rfl, a, rfl⟩ | ⟨b, off, cap, rfl, h1, h2, h3⟩
  · exact .sliceNil trivial (.inr rfl)
  · have key := Rep.sliceRow (γ := Gh.top w) (w := w) (l := false) (es := prv l) (s := 4) (tag := .ro) (b := b) (off := off) (cap := cap) (vs := pvals l)
      (by have := repL_prv (γ := Gh.top w) (w := w) (b := false) l [] [] (.nil _); simpa using this)
      (fun e he => by obtain ⟨x, _, rfl⟩ := List.mem_map.1 he; rfl)
      (fun j x hj => ⟨World.block_lt_of_cell? _ _ (h3 j x hj), h3 j x hj⟩)
      (pvals_one l) (by simpa using h1) h2 trivial
    simpa using key
theorem Rep.rowR {γ : Gh} {w : World} {v : Value} {l : List Pr} {t : Tag} (h : Rep γ w false (.slice (prv l) 4 t) v) : RowR w v l := by
  generalize he : prv l = es at h
  cases h with
  | @sliceRow _ _ _ _ b off cap vs h1 h2 h3 h4 h5 h6 h7 =>
    subst he
    have h1 : RepL γ w false (flat (prv l) ++ []) vs := by rwa [List.append_nil]
    obtain ⟨junk, e, hj⟩ := repL_prv_inv l [] vs h1
    obtain rfl : junk = [] := List.eq_nil_of_length_eq_zero (by simpa using hj)
    rw [List.append_nil] at e
    subst e
    exact .inr ⟨b, off, cap, by rw [prv_length], by simpa using h5, h6, fun j x hj => (h3 j x hj).2⟩
  | sliceNil => exact .inl ⟨(by cases l with | nil => rfl | cons => cases he), _, rfl⟩
theorem RowR.below {w w' : World} {v : Value} {l : List Pr} (h : RowR w v l) (hb : Go.RowKit.Below w.heap.size w w') : RowR w' v l := by
  rcases h with h | ⟨b, off, cap, h0, h1, h2, h3⟩
  · exact .inl h
  · refine .inr ⟨b, off, cap, h0, h1, h2, fun j x hj => ?_⟩
    have := h3 j x hj
    rw [hb.cell (p := ⟨b, off + j, none⟩) (World.block_lt_of_cell? _ _ this)]
    exact this
theorem RowR.open {w : World} {v : Value} {l : List Pr} (h : RowR w v l) (hn : l ≠ []) : ∃ b off cap, v = .slice (some ⟨b, off, none⟩) l.length cap ∧ l.length ≤ cap ∧ cap ≤ maxLen ∧ b < w.heap.size ∧
    ∀ k (h : k < l.length), w.cell? ⟨b, off + k * 4, none⟩ = some (.string ⟨l[k].key.toArray⟩) ∧ w.cell? ⟨b, off + k * 4 + 1, none⟩ = some (.int .i64 l[k].v.k) ∧ w.cell? ⟨b, off + k * 4 + 2, none⟩ = some (.int .i64 l[k].v.n) ∧ w.cell? ⟨b, off + k * 4 + 3, none⟩ = some (.string ⟨l[k].v.s.toArray⟩) := by
  rcases h with ⟨rfl, _⟩ | ⟨b, off, cap, h0, h1, h2, h3⟩
  · exact (hn rfl).elim
  · have key : ∀ k (h : k < l.length) j (x : Value), (pval l[k])[j]? = some x → w.cell? ⟨b, off + k * 4 + j, none⟩ = some x := fun k hk j x hx => by
      have h4 : j < 4 := by
        rcases Nat.lt_or_ge j 4 with h | h
        · exact h
        · rw [List.getElem?_eq_none (by simpa [pval] using h)] at hx; cases hx
      have := h3 (k * 4 + j) x (by
        clear h3 h0
        unfold pvals
        induction l generalizing k with
        | nil => simp at hk
        | cons p l ih =>
          rw [List.flatMap_cons]
          cases k with
          | zero => rw [Nat.zero_mul, Nat.zero_add, List.getElem?_append_left (by simpa [pval] using h4)]; exact hx
          | succ k =>
            by_cases hl : l = []
            · subst hl; simp at hk
            rw [List.getElem?_append_right (by simp [pval]; omega)]
            have : (k + 1) * 4 + j - (pval p).length = k * 4 + j := by simp [pval]; omega
            rw [this]
            exact ih hl (by simp at h1; omega) k (by simpa using hk) (by simpa using hx))
      rw [← Nat.add_assoc] at this
      exact this
    refine ⟨b, off, cap, h0, h1, h2, ?_, fun k hk => ⟨by simpa using key k hk 0 _ rfl, key k hk 1 _ rfl, key k hk 2 _ rfl, key k hk 3 _ rfl⟩⟩
    cases l with
    | nil => exact (hn rfl).elim
    | cons p l => exact World.block_lt_of_cell? _ _ (key 0 (by simp) 0 _ rfl)
theorem RowP.grow {w w' : World} {base : Nat} {v : Value} {l : List Pr} (h : RowP w base v l) (hb : Go.RowKit.Below w.heap.size w w') : RowP w' base v l := by
  rcases h with h | ⟨g, cap, junk, T, h1, h2, h3, h4⟩
  · exact .inl h
  · exact .inr ⟨g, cap, junk, T, h1, h2, by rw [hb.block g (Array.getElem?_eq_some_iff.1 h3).1]; exact h3, h4⟩
theorem RowP.lt {w : World} {base : Nat} {v : Value} {l : List Pr} (h : RowP w base v l) : ∀ g n c, v = .slice (some ⟨g, 0, none⟩) n c → 0 < c → g < w.heap.size := by
  intro g n c e hc
  rcases h with ⟨_, a, rfl⟩ | ⟨g', cap, junk, T, rfl, h2, h3, h4⟩
  · cases e; omega
  · cases e; exact (Array.getElem?_eq_some_iff.1 h3).1
theorem cells_at {w : World} {b : Nat} {vs : Array Value} {T : TypeId} (h : w.heap[b]? = some (.cells vs T (0, 0))) (j : Nat) : w.cell? ⟨b, j, none⟩ = vs[j]? := by
  simp only [World.cell?, h]
  rfl
theorem frz_at {w : World} {b : Nat} {vs : Array Value} {T : TypeId} (h : w.heap[b]? = some (.cells vs T (0, 0))) (j : Nat) : w.frozen? ⟨b, j, none⟩ = false := by
  simp only [World.frozen?, h]
  simp
theorem pvals_set (p : Pr) (junk : List Value) : ∀ (l : List Pr) (i : Nat), i < l.length →
    (((((pvals l ++ junk).set (i * 4) (.string ⟨p.key.toArray⟩)).set (i * 4 + 1) (.int .i64 p.v.k)).set (i * 4 + 2) (.int .i64 p.v.n)).set (i * 4 + 3) (.string ⟨p.v.s.toArray⟩)) = pvals (l.set i p) ++ junk
  | [], i, h => by simp at h
  | q :: l, 0, h => by simp [pvals, pval]
  | q :: l, i + 1, h => by
    have ih := pvals_set p junk l i (by simpa using h)
    have e : pvals (q :: l) ++ junk = Value.string ⟨q.key.toArray⟩ :: .int .i64 q.v.k :: .int .i64 q.v.n :: .string ⟨q.v.s.toArray⟩ :: (pvals l ++ junk) := rfl
    have e2 : pvals ((q :: l).set (i + 1) p) ++ junk = Value.string ⟨q.key.toArray⟩ :: .int .i64 q.v.k :: .int .i64 q.v.n :: .string ⟨q.v.s.toArray⟩ :: (pvals (l.set i p) ++ junk) := rfl
    rw [e, e2, ← ih]
    have n0 : (i + 1) * 4 = i * 4 + 1 + 1 + 1 + 1 := by omega
    have n1 : (i + 1) * 4 + 1 = i * 4 + 1 + 1 + 1 + 1 + 1 := by omega
    have n2 : (i + 1) * 4 + 2 = i * 4 + 2 + 1 + 1 + 1 + 1 := by omega
    have n3 : (i + 1) * 4 + 3 = i * 4 + 3 + 1 + 1 + 1 + 1 := by omega
    rw [n3, n2, n1, n0]
    simp only [List.set_cons_succ]
theorem row_set {w : World} {base g cap : Nat} {junk : List Value} {T : TypeId} {l : List Pr} (p : Pr) (i : Nat) (hi : i < l.length) (h1 : base ≤ g) (h2 : w.heap[g]? = some (.cells (pvals l ++ junk).toArray T (0, 0))) (h3 : l.length * 4 + junk.length = cap * 4) (h4 : cap ≤ 9223372036854775807) (h5 : ∀ v ∈ junk, v.oneCell' = true) {a0 a1 a2 a3 : Nat} (e0 : a0 = i * 4) (e1 : a1 = i * 4 + 1) (e2 : a2 = i * 4 + 2) (e3 : a3 = i * 4 + 3) :
    RowP ((((w.setCell ⟨g, a0, none⟩ (.string ⟨p.key.toArray⟩)).setCell ⟨g, a1, none⟩ (.int .i64 p.v.k)).setCell ⟨g, a2, none⟩ (.int .i64 p.v.n)).setCell ⟨g, a3, none⟩ (.string ⟨p.v.s.toArray⟩)) base (.slice (some ⟨g, 0, none⟩) l.length cap) (l.set i p) := by
  subst e0 e1 e2 e3
  refine .inr ⟨g, cap, junk, T, by rw [List.length_set], h1, ?_, by rw [List.length_set]; exact h3, h4, h5⟩
  rw [heap_setCell_same _ _ _ _ _ _ (heap_setCell_same _ _ _ _ _ _ (heap_setCell_same _ _ _ _ _ _ (heap_setCell_same _ _ _ _ _ _ h2)))]
  simp only [List.setIfInBounds_toArray, pvals_set p junk l i hi]
theorem rep_ib {γ : Gh} {w : World} {l : Bool} {k : IntKind} {n : Int} {b : Bool} {u : Value} (h : Rep γ w l (.tuple [.int k n, .bool b]) u) : u = .tuple #[.int k n, .bool b] := by
  cases h with
  | tuple h =>
    obtain ⟨x, y, rfl, h1, h2⟩ := repL2 h
    cases h1; cases h2; rfl
theorem rep_str1 {w : World} {b : Nat} {s : Txt} (h : w.cell? ⟨b, 0, none⟩ = some (.string ⟨s.toArray⟩)) : Rep (Gh.top w) w false (.slice (strv [s]) 1 .ro) (.slice (some ⟨b, 0, none⟩) 1 1) := by
  refine Rep.sliceRow (es := [.str s]) (vs := [.string ⟨s.toArray⟩]) (.cons (.str _ _) (.nil _)) (fun e he => by cases he with | head => rfl | tail _ h => cases h) (fun j v hj => ?_) (fun v hv => by cases hv with | head => rfl | tail _ h => cases h) (Nat.le_refl _) (by unfold maxLen; omega) trivial
  match j, hj with
  | 0, hj => cases hj; exact ⟨World.block_lt_of_cell? _ _ h, h⟩
theorem rep_vl1 {w : World} {b : Nat} {v : Vl} (h0 : w.cell? ⟨b, 0, none⟩ = some (.int .i64 v.k)) (h1 : w.cell? ⟨b, 1, none⟩ = some (.int .i64 v.n)) (h2 : w.cell? ⟨b, 2, none⟩ = some (.string ⟨v.s.toArray⟩)) :
    Rep (Gh.top w) w false (.slice (vlv [v]) 3 .ro) (.slice (some ⟨b, 0, none⟩) 1 1) := by
  refine Rep.sliceRow (es := [v.a]) (vs := [.int .i64 v.k, .int .i64 v.n, .string ⟨v.s.toArray⟩]) (.cons (.int _ _ _) (.cons (.int _ _ _) (.cons (.str _ _) (.nil _)))) (fun e he => by cases he with | head => rfl | tail _ h => cases h) (fun j v hj => ?_) (fun v hv => ?_) (Nat.le_refl _) (by unfold maxLen; omega) trivial
  · match j, hj with
    | 0, hj => cases hj; exact ⟨World.block_lt_of_cell? _ _ h0, h0⟩
    | 1, hj => cases hj; exact ⟨World.block_lt_of_cell? _ _ h1, h1⟩
    | 2, hj => cases hj; exact ⟨World.block_lt_of_cell? _ _ h2, h2⟩
  · simp only [List.mem_cons, List.not_mem_nil, or_false] at hv
    rcases hv with rfl | rfl | rfl <;> rfl
theorem RowP.len {w : World} {base : Nat} {v : Value} {l : List Pr} (h : RowP w base v l) : ∃ a c, v = .slice a l.length c := by
  rcases h with ⟨rfl, a, rfl⟩ | ⟨g, cap, junk, T, rfl, _⟩
  · exact ⟨_, _, rfl⟩
  · exact ⟨_, _, rfl⟩
theorem RowP.mono {w : World} {base base' : Nat} {v : Value} {l : List Pr} (h : RowP w base v l) (hb : base' ≤ base) : RowP w base' v l := by
  rcases h with h | ⟨g, cap, junk, T, h1, h2, h3⟩
  · exact .inl h
  · exact .inr ⟨g, cap, junk, T, h1, by omega, h3⟩
end Go.AL
namespace Go.Proofs
open Go.RowKit Ytbghpjamahgegaa
set_option linter.unusedSimpArgs false
set_option linter.unusedVariables false
theorem propInfo : (Try.prog.info? 37).map (fun i => (i.zero, i.size, i.bytes)) = some (some (.agg #[.string ⟨#[]⟩, .int .i64 0, .int .i64 0, .string ⟨#[]⟩]), 4, 48) := by kernel_rfl
set_option maxHeartbeats 4000000 in
set_option maxRecDepth 1000000 in
theorem set_walk (l news : List AL.Pr) (v1 v2 : Value) (w : World) (h1 : AL.RowR w v1 l) (h2 : AL.RowR w v2 news) (hl : l.length ≤ 1000000) (hn : news.length ≤ 900000) (hp : ∀ p ∈ l, p.fit) (hq : ∀ p ∈ news, p.fit) :
    Calls Try.prog 14 #[v1, v2] w fun e w' => ∃ u, e = .returned (.tuple #[u, .int .i64 (AL.setP l news).2]) ∧ AL.RowP w' w.heap.size u (AL.setP l news).1 ∧ Below w.heap.size w w' := by
  have hA : ∀ w, AL.Known w := known_any
  go_enter Try.func14, Try.ntmps14
  go_wp2_with (go_at_call 20; refine (AL.ACall.top (right_c l hl hp) (hA _) (vs := [v1]) (.cons h1.rep (.nil _))).mono ?_)
  rintro e W0 ⟨u, r, γ', σ', rfl, hrep, hwk, b0⟩
  have := hwk _ _ _ _ hrep
  cases this
  by_cases hr : AL.rightP l = true
  · rw [hr]
    have hlen : l.length ≤ 16 := by have := hr; simp [AL.rightP] at this; exact this.2
    have h1' := h1.below b0
    have h2' := h2.below b0
    go_wp2_with (go_at_call 32; refine (clone_k l hl (hA _) h1'.rep).mono ?_)
    rintro e W1 ⟨u, rfl, hrow, b1⟩
    obtain ⟨a, c, rfl⟩ := hrow.len
    by_cases hnn : news = []
    · subst hnn
      have hlays : AL.laysP l [] = (l, 0) := rfl
      have he := AL.setP_ok hr hlays (by omega)
      rcases h2 with ⟨_, a2, rfl⟩ | ⟨b2, o2, c2, rfl, _⟩
      all_goals
        go_wp2
        refine wp_loop_rounds 1 ?_
        rw [rounds_succ]
        go_wp2
        go_ret2
        rw [he]
        exact ⟨_, rfl, hrow.mono b0.size, b0.trans (b1.mono b0.size)⟩
    · obtain ⟨nb, off, cap, rfl, hcap, hmax, hnb, hcell⟩ := h2.open hnn
      clear h1 h1' h2 h2' hwk hrep
      go_wp2
      go_loopw [6, 18] (fun o i wr => ∃ (k : Nat) (acc : List AL.Pr), k ≤ news.length ∧ i = .int .i64 k ∧ AL.RowP wr w.heap.size o acc ∧ AL.incP acc = true ∧ acc.length ≤ 16 + k ∧ (∀ p ∈ acc, p.fit) ∧ Below w.heap.size w wr ∧ AL.laysP l news = AL.laysP acc (news.drop k))
        (fun _ i _ => news.length - (intOf i).toNat)
      case atStart =>
        refine ⟨0, l, Nat.zero_le _, rfl, hrow.mono b0.size, ?_, by omega, hp, b0.trans (b1.mono b0.size), by rw [List.drop_zero]⟩
        simp [AL.rightP] at hr
        exact hr.1
      case round =>
        obtain ⟨k, acc, hk, rfl, hacc, hinc, hal, hfit, hbw, hlays⟩ := hrel
        by_cases hlt : k < news.length
        · obtain ⟨c0, c1, c2, c3⟩ := hcell k hlt
          have hd := List.drop_eq_getElem_cons hlt
          have hpf := hq news[k] (List.getElem_mem hlt)
          rw [hd] at hlays
          rw [← hbw.cell (p := ⟨nb, _, none⟩) hnb] at c0 c1 c2 c3
          generalize news[k] = p at *
          clear hd
          go_wp2_with (go_at_call 33; refine (AL.ACall.top (Lt.right_c [p.key] (by simp) (by simpa using hpf.1)) (hA _) (vs := [_]) (.cons (AL.rep_str1 ?ra) (.nil _))).mono ?_)
          case ra => exact World.cell?_alloc_at _ _ _ _ (by simp only [World.size_alloc])
          rintro e W2 ⟨u, r, γ', σ', rfl, hrep, hwk, b2⟩
          have hx : W2.heap[wr.heap.size]? = some (.cells #[.string ⟨p.key.toArray⟩, .int .i64 p.v.k, .int .i64 p.v.n, .string ⟨p.v.s.toArray⟩] 37 (0, 0)) := by
            rw [b2.block _ (by simp only [World.size_alloc]; omega), heap_alloc_old _ _ (by simp only [World.size_alloc]; omega), heap_alloc_new]
          have bg : Below wr.heap.size wr W2 := (((Below.refl _ wr).alloc (Nat.le_refl _) _).alloc (by simp only [World.size_alloc]; omega) _).trans (b2.mono (by simp only [World.size_alloc]; omega))
          have bw2 := hbw.trans (bg.mono hbw.size)
          have hacc2 := hacc.grow bg
          have d0 := AL.cells_at hx 0
          have d1 := AL.cells_at hx 1
          have d2 := AL.cells_at hx 2
          have d3 := AL.cells_at hx 3
          simp only [List.getElem?_toArray, List.getElem?_cons_zero, List.getElem?_cons_succ] at d0 d1 d2 d3
          have hws : w.heap.size ≤ wr.heap.size := hbw.size
          have hsz : wr.heap.size < W2.heap.size := (Array.getElem?_eq_some_iff.1 hx).1
          have hlt6 := hacc.lt
          clear b2 bg hacc hbw c0 c1 c2 c3
          generalize wr.heap.size = B at *
          by_cases hname : AL.nameT p.key = true
          · rw [show [p.key].all AL.nameT = true by simp [hname]] at hwk
            have := hwk _ _ _ _ hrep
            cases this
            clear hwk hrep
            go_wp2_with (go_at_call 34; refine (AL.ACall.top (V.right_c [p.v] (by simp)) (hA _) (vs := [_]) (.cons (AL.rep_vl1 ?ra ?rb ?rc) (.nil _))).mono ?_)
            case ra => exact World.cell?_alloc_at _ _ _ _ (by simp only [World.size_alloc])
            case rb => exact World.cell?_alloc_at _ _ _ _ (by simp only [World.size_alloc])
            case rc => exact World.cell?_alloc_at _ _ _ _ (by simp only [World.size_alloc])
            rintro e W3 ⟨u, r, γ', σ', rfl, hrep, hwk, b3⟩
            have bg : Below W2.heap.size W2 W3 := ((Below.refl _ W2).alloc (Nat.le_refl _) _).trans (b3.mono (by simp only [World.size_alloc]; omega))
            have bw3 := bw2.trans (bg.mono bw2.size)
            have hacc3 := hacc2.grow bg
            have hx3 := hx
            rw [← bg.block _ hsz] at hx3
            rw [← bg.cell (p := ⟨B, _, none⟩) hsz] at d0 d1 d2 d3
            have hsz3 : B < W3.heap.size := (Array.getElem?_eq_some_iff.1 hx3).1
            clear b3 bg hacc2 bw2 hx hsz
            by_cases hval : AL.okV p.v = true
            · rw [show [p.v].all AL.okV = true by simp [hval]] at hwk
              have := hwk _ _ _ _ hrep
              cases this
              clear hwk hrep
              go_wp2_with (go_at_call 35; refine (AL.ACall.top (search_c acc p.key (by omega) hfit hinc hpf.1) (hA _) (vs := [_, _, _]) (.cons hacc3.rep (.cons (.str _ _) (.cons (.func (.nil _) (.nil _)) (.nil _))))).mono ?_)
              rintro e W4 ⟨u, r, γ', σ', rfl, hrep, hwk, b4⟩
              have := AL.rep_ib (hwk _ _ _ _ hrep)
              subst this
              clear hwk hrep
              have bg := b4
              have bw4 := bw3.trans (bg.mono bw3.size)
              have hacc4 := hacc3.grow bg
              rw [← bg.block _ hsz3] at hx3
              rw [← bg.cell (p := ⟨B, _, none⟩) hsz3] at d0 d1 d2 d3
              have hsz4 : B < W4.heap.size := (Array.getElem?_eq_some_iff.1 hx3).1
              clear b4 bg hacc3 bw3 hsz3
              have hposle := AL.posP_le acc p.key
              have hput := AL.putP_pos acc p
              have hpos : AL.hasP acc p.key = true → AL.posP acc p.key < acc.length := fun h => (of_decide_eq_true h).1
              generalize AL.posP acc p.key = i at *
              by_cases hhas : AL.hasP acc p.key = true
              · rw [hhas]
                rw [if_pos hhas] at hput
                rcases hacc4 with ⟨rfl, _⟩ | ⟨g, cap', junk, T, rfl, e1, e2, e3, e4, e5⟩
                · have := hpos hhas
                  simp at this
                · have hil : i < acc.length := hpos hhas
                  have f0 := AL.frz_at e2 (i * 4)
                  have f1 := AL.frz_at e2 (i * 4 + 1)
                  have f2 := AL.frz_at e2 (i * 4 + 2)
                  have f3 := AL.frz_at e2 (i * 4 + 3)
                  have hvl : (AL.pvals acc ++ junk).length = acc.length * 4 + junk.length := by rw [List.length_append, AL.pvals_length]
                  obtain ⟨x0, g0⟩ : ∃ x, W4.cell? ⟨g, i * 4, none⟩ = some x := ⟨_, by rw [AL.cells_at e2]; exact Array.getElem?_eq_getElem (by simp only [List.size_toArray]; omega)⟩
                  obtain ⟨x1, g1⟩ : ∃ x, W4.cell? ⟨g, i * 4 + 1, none⟩ = some x := ⟨_, by rw [AL.cells_at e2]; exact Array.getElem?_eq_getElem (by simp only [List.size_toArray]; omega)⟩
                  obtain ⟨x2, g2⟩ : ∃ x, W4.cell? ⟨g, i * 4 + 2, none⟩ = some x := ⟨_, by rw [AL.cells_at e2]; exact Array.getElem?_eq_getElem (by simp only [List.size_toArray]; omega)⟩
                  obtain ⟨x3, g3⟩ : ∃ x, W4.cell? ⟨g, i * 4 + 3, none⟩ = some x := ⟨_, by rw [AL.cells_at e2]; exact Array.getElem?_eq_getElem (by simp only [List.size_toArray]; omega)⟩
                  go_wp2
                  refine ⟨⟨k + 1, acc.set i p, by omega, by simp, AL.row_set p i hil e1 e2 e3 e4 e5 rfl rfl rfl rfl, ?_, by rw [List.length_set]; omega, ?_, ?_, ?_⟩, by simp only [intOf]; omega⟩
                  · rw [← hput]; exact AL.incP_put p (by simp [AL.okP, hname, hval]) acc hinc
                  · intro x hxm
                    rw [← hput] at hxm
                    rcases AL.putP_mem p x acc hxm with rfl | h
                    · exact hpf
                    · exact hfit x h
                  · exact (((bw4.setCell e1 _).setCell e1 _).setCell e1 _).setCell e1 _
                  · rw [hlays, AL.laysP_put hname hval, hput]
              · rw [if_neg hhas] at hput
                have hhas : AL.hasP acc p.key = false := by simpa using hhas
                rw [hhas]
                go_wp2_with (go_at_call 37; refine (insert_k acc i p hposle (by omega) (base := w.heap.size) ?ba (hacc4.grow ?bb) (q := W4.heap.size) (T := 37) ?bc ?bd).mono ?_)
                case ba => simp only [World.size_alloc]; exact Nat.le_succ_of_le bw4.size
                case bb => exact (Below.refl _ W4).alloc (Nat.le_refl _) _
                case bc => exact heap_alloc_new _ _
                case bd => exact fun g n c e hc => by have := hlt6 g n c e hc; omega
                rintro e W5 ⟨u, rfl, hrow5, b5⟩
                have bw5 := (bw4.alloc bw4.size _).trans b5
                go_wp2
                go_roundw
                case rel =>
                  refine ⟨k + 1, AL.insL acc i p, by omega, by simp, hrow5, ?_, by simp [AL.insL]; omega, ?_, bw5, ?_⟩
                  · have : AL.insL acc i p = AL.putP acc p := hput.symm
                    rw [this]; exact AL.incP_put p (by simp [AL.okP, hname, hval]) acc hinc
                  · intro x hxm
                    have : AL.insL acc i p = AL.putP acc p := hput.symm
                    rw [this] at hxm
                    rcases AL.putP_mem p x acc hxm with rfl | h
                    · exact hpf
                    · exact hfit x h
                  · rw [hlays, AL.laysP_put hname hval, hput]; rfl
                case measure => simp only [intOf]; omega
            · have hval : AL.okV p.v = false := by simpa using hval
              rw [show [p.v].all AL.okV = false by simp [hval]] at hwk
              have := hwk _ _ _ _ hrep
              cases this
              clear hwk hrep
              go_wp2
              go_ret2
              have he := AL.setP_err hr (hlays.trans (AL.laysP_val hname hval _ _)) (by decide)
              rw [he]
              exact ⟨.slice none 0 0, rfl, .inl ⟨rfl, _, rfl⟩, bw3⟩
          · have hname : AL.nameT p.key = false := by simpa using hname
            rw [show [p.key].all AL.nameT = false by simp [hname]] at hwk
            have := hwk _ _ _ _ hrep
            cases this
            clear hwk hrep
            go_wp2
            go_ret2
            have he := AL.setP_err hr (hlays.trans (AL.laysP_name hname _ _)) (by decide)
            rw [he]
            exact ⟨.slice none 0 0, rfl, .inl ⟨rfl, _, rfl⟩, bw2⟩
        · rw [List.drop_of_length_le (by omega)] at hlays
          have hlays : AL.laysP l news = (acc, 0) := hlays
          obtain ⟨a', c', rfl⟩ := hacc.len
          by_cases hm : 16 < acc.length
          · go_wp2
            go_ret2
            have he := AL.setP_many hr hlays hm
            rw [he]
            exact ⟨.slice none 0 0, rfl, .inl ⟨rfl, _, rfl⟩, hbw⟩
          · go_wp2
            go_ret2
            have he := AL.setP_ok hr hlays hm
            rw [he]
            exact ⟨_, rfl, hacc, hbw⟩
  · have hr : AL.rightP l = false := by simpa using hr
    rw [hr]
    go_wp2
    go_ret2
    exact ⟨.slice none 0 0, by simp [AL.setP, hr], by simp only [AL.setP, hr, if_true]; exact .inl ⟨rfl, _, rfl⟩, b0⟩
end Go.Proofs
end

section
namespace Go.AL
set_option linter.unusedVariables false
theorem RowP.repNew {γ : Gh} {w : World} {base : Nat} {v : Value} {l : List Pr} (h : RowP w base v l) (hγ : ∀ b o, base ≤ b → b < w.heap.size → γ.imm b o) : Rep γ w false (.slice (prv l) 4 .ro) v := by
  rcases h with ⟨rfl, a, rfl⟩ | ⟨g, cap, junk, T, rfl, hb, hg, hn, hc, hj⟩
  · exact .sliceNil trivial (.inr rfl)
  · have hgs : g < w.heap.size := (Array.getElem?_eq_some_iff.1 hg).1
    have key := Rep.sliceRow (γ := γ) (w := w) (l := false) (es := prv l) (s := 4) (tag := .ro) (b := g) (off := 0) (cap := cap) (vs := pvals l)
      (by have := repL_prv (γ := γ) (w := w) (b := false) l [] [] (.nil _); simpa using this)
      (fun e he => by obtain ⟨x, _, rfl⟩ := List.mem_map.1 he; rfl)
      (fun j v hj' => by
        refine ⟨hγ _ _ hb hgs, ?_⟩
        rw [Nat.zero_add]
        have hlt : j < (pvals l).length := by
          rcases Nat.lt_or_ge j (pvals l).length with h1 | h1
          · exact h1
          · rw [List.getElem?_eq_none h1] at hj'; cases hj'
        simp only [World.cell?, hg]
        rw [List.getElem?_toArray, List.getElem?_append_left hlt]
        exact hj')
      (pvals_one l)
      (by simp; omega) (by unfold maxLen; omega) trivial
    simpa using key
end Go.AL
namespace Go.Proofs.Ytbghpjamahgegaa
open Go.AL
set_option linter.unusedVariables false
noncomputable section
def strsOk (es : List AVal) (s : Nat) : Bool := okW 1 s es && (es.all strIs && hold (decide (es.length ≤ 1000000)))
def idxSE : Ent := (57, fun xs _ => match xs with
  | [.slice es s t, .str x] => some (.nm ((es.map AVal.strOf).contains x) fun y => .nm (if y then ((es.map AVal.strOf).idxOf x : Int) else -1) fun i => .pure (strsOk es s) (.int .i64 i))
  | _ => none)
def containsSE : Ent := (40, fun xs _ => match xs with
  | [.slice es s t, .str x] => some (.nm ((es.map AVal.strOf).contains x) fun b => .pure (strsOk es s) (.bool (hold b)))
  | _ => none)
def drop1E : Ent := (39, fun xs _ => match xs with
  | [.agg [.str key, .int .i64 k, .int .i64 n, .str s], .iptr [.slice es s' t]] => some (.nm ((es.map AVal.strOf).contains key) fun b => .pure (strsOk es s') (.bool (hold b)))
  | _ => none)
def setE : Ent := (14, fun xs _ => match xs with
  | [.slice es s t, .slice fs s' t'] => some (.nm (setP (es.map prOf) (fs.map prOf)) fun y => .pure (prsOk es s && (prsOk fs s' && hold (decide (fs.length ≤ 900000)))) (.tuple [.slice (prv y.1) 4 .ro, .int .i64 y.2]))
  | _ => none)
def dropE : Ent := (17, fun xs _ => match xs with
  | [.slice es s t, .slice ks s' t'] => some (.nm (dropP (es.map prOf) (ks.map AVal.strOf)) fun y => .pure (prsOk es s && strsOk ks s') (.slice (prv y) 4 .ro))
  | _ => none)
def bytsOk (es : List AVal) (s : Nat) : Bool := okW 1 s es && (es.all byteIs && hold (decide (es.length ≤ 1000000)))
def takeE : Ent := (22, fun xs _ => match xs with
  | [.slice es s t] => some (.nm (takeP (es.map AL.byteOf)) fun y => .pure (bytsOk es s) (.tuple [.slice (prv y.1) 4 .ro, .int .i64 (y.2.1 : Int), .int .i64 y.2.2]))
  | _ => none)
def takeRE : Ent := (23, fun xs _ => match xs with
  | [.slice es s t] => some (.nm (takeP (es.map AL.byteOf)) fun y => .pure (bytsOk es s) (.tuple [.slice (prv y.1) 4 .ro, .int .i64 (y.2.1 : Int), .int .i64 y.2.2]))
  | _ => none)
def setRE : Ent := (19, fun xs _ => match xs with
  | [.slice es s t, .slice fs s' t'] => some (.nm (setP (es.map prOf) (fs.map prOf)) fun y => .pure (prsOk es s && (prsOk fs s' && hold (decide (fs.length ≤ 900000)))) (.tuple [.slice (prv y.1) 4 .ro, .int .i64 y.2]))
  | _ => none)
def numE : Ent := (25, fun xs _ => match xs with
  | [.str key, .int .i64 n] => some (.pure true (.agg [.str key, .int .i64 1, .int .i64 n, .str []]))
  | _ => none)
def textE : Ent := (26, fun xs _ => match xs with
  | [.str key, .str s] => some (.pure true (.agg [.str key, .int .i64 2, .int .i64 0, .str s]))
  | _ => none)
def smallE : Ent := (9, fun xs _ => match xs with
  | [.slice es s t] => some (.pure (okW 4 s es && es.all isPr) (.bool (hold (smallP (es.map prOf)))))
  | _ => none)
def copiedE : Ent := (15, fun xs _ => match xs with
  | [.slice es s t] => some (.nm (es.map prOf) fun y => .pure (prsOk es s) (.slice (prv y) 4 .ro))
  | _ => none)
def copiedOE : Ent := (15, fun xs σ => match xs with
  | [.slice es s t] => some (.full (prsOk es s) (.slice (prv (es.map prOf)) 4 (.own σ.nown)) (σ.pushOwn (prv (es.map prOf)).length))
  | _ => none)
def copiedXE : Ent := (15, fun xs σ => match Nat.beq σ.nown 0 with
  | true => copiedE.2 xs σ
  | false => copiedOE.2 xs σ)
def awakeE : Ent := (8, fun xs _ => match xs with
  | [] => some (.pure true (.bool (hold true)))
  | _ => none)
end
theorem set_ok : EntOk Try.prog setE := by
  intro xs σ; simp only [setE]; split
  · rename_i es s t fs s' t'
    intro hc
    simp only [prsOk, Bool.and_eq_true, hold_eq, decide_eq_true_eq] at hc
    obtain ⟨⟨a1, a2, a3⟩, ⟨b1, b2, b3⟩, hn⟩ := hc
    have a3 := fitPs_of a3
    have b3 := fitPs_of b3
    refine PCall.ofMade fun γ w vs ha hr => ?_
    obtain ⟨u1, u2, rfl, h1, h2⟩ := repL2 hr
    have h1 := (wk_prv t a1 a2 _ _ _ _ h1).rowR
    have h2 := (wk_prv t' b1 b2 _ _ _ _ h2).rowR
    refine (set_walk (es.map prOf) (fs.map prOf) u1 u2 w h1 h2 a3.1 (by simpa using hn) a3.2 b3.2).mono ?_
    rintro e w' ⟨u, rfl, hrow, hb⟩
    exact ⟨_, rfl, hb, .tuple (.cons (hrow.repNew fun b o h1 h2 => .inr ⟨h1, h2⟩) (.cons (.int _ _ _) (.nil _)))⟩
  · trivial
end Go.Proofs.Ytbghpjamahgegaa
end
