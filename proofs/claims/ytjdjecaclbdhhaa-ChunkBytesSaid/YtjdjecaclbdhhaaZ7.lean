/-
  The texts Db, Cq, Dc, Dd, Cu, Cv, Yp of this seat, one behind the other.
-/
import Derived.Test.YtjdjecaclbdhhaaZ6
import Derived.KernelRfl

section
set_option maxRecDepth 100000
set_option maxHeartbeats 0
set_option linter.unusedVariables false
namespace Go.Proofs.Ytjdjecaclbdhhaa
open Go.AL Go.Proofs
noncomputable def cRightR : Cfg := { keep := [0, 2, 3, 4, 5, 6, 7, 8, 12, 23, 31, 69, 72, 82, 87, 96], cut := [(7, [0, 3, 4], []), (29, [0, 3, 4, 5, 7], [5]), (39, [0, 3, 4, 5, 8], [5]), (8, [0, 3, 4], []), (14, [0, 3, 4, 5, 6], [5]), (16, [0, 3, 4, 5, 6, 23], [5]), (18, [0, 3, 4, 5, 6], [5]), (22, [0, 3, 4, 5, 6], [5]), (26, [0, 3, 4, 5], [5]), (36, [0, 3, 4, 5], [5]), (48, [], [])], nmd := [26] }
noncomputable def code_20_ : Code := (Try.f20.body).getD .skip
noncomputable def code_20_1_1_1 : Code := codeAt code_20_ [1, 1, 1]
noncomputable def code_20_1_1_0_1_0_0 : Code := codeAt code_20_ [1, 1, 0, 1, 0, 0]
noncomputable def code_20_1_1_0_1_0_0_1_1 : Code := codeAt code_20_ [1, 1, 0, 1, 0, 0, 1, 1]
noncomputable def code_20_1_1_0_1_0_0_1_0_0_1_1 : Code := codeAt code_20_ [1, 1, 0, 1, 0, 0, 1, 0, 0, 1, 1]
noncomputable def code_20_1_1_0_1_0_0_1_0_0_1_1_1 : Code := codeAt code_20_ [1, 1, 0, 1, 0, 0, 1, 0, 0, 1, 1, 1]
noncomputable def code_20_1_1_0_1_0_0_1_0_0_1_1_0_1 : Code := codeAt code_20_ [1, 1, 0, 1, 0, 0, 1, 0, 0, 1, 1, 0, 1]
noncomputable def code_20_1_1_0_1_0_0_1_0_0_1_1_1_1 : Code := codeAt code_20_ [1, 1, 0, 1, 0, 0, 1, 0, 0, 1, 1, 1, 1]
noncomputable def code_20_1_1_0_1_0_0_1_0_0_1_1_1_1_1 : Code := codeAt code_20_ [1, 1, 0, 1, 0, 0, 1, 0, 0, 1, 1, 1, 1, 1]
noncomputable def code_20_1_1_0_1_0_0_1_0_0_1_1_0_1_0_1 : Code := codeAt code_20_ [1, 1, 0, 1, 0, 0, 1, 0, 0, 1, 1, 0, 1, 0, 1]
noncomputable def code_20_1_1_0_1_0_0_1_0_0_1_1_1_1_0_1_0_0 : Code := codeAt code_20_ [1, 1, 0, 1, 0, 0, 1, 0, 0, 1, 1, 1, 1, 0, 1, 0, 0]
noncomputable def code_20_1_1_0_1_0_0_1_0_0_1_1_1_1_1_1_0_0 : Code := codeAt code_20_ [1, 1, 0, 1, 0, 0, 1, 0, 0, 1, 1, 1, 1, 1, 1, 0, 0]
theorem rightR_r (l : List Ck) (Q : AVal → Sto → Prop) : vc Try.prog cRightR code_20_ (endK Try.prog Try.f20.results.toList Q) (St.start Try.f20.ntmps [.slice (ckv l) 4 .ro] (Sto.empty)) =
  (loopV (fun s => St.norm [] [0, 3, 4] [] s) (vc Try.prog cRightR code_20_1_1_0_1_0_0) (blockK 0 (thenK (fun s => cutV (vc Try.prog cRightR code_20_1_1_1 (endK Try.prog (Array.toList (Go.Func.results Try.f20)) Q)) (St.norm [] [] [] s)) (endK Try.prog (Array.toList (Go.Func.results Try.f20)) Q))) (St.mk 102 [(0, AVal.slice (ckv l) 4 Tag.ro), (3, AVal.int IntKind.i64 (-1 : Int)), (4, AVal.int IntKind.i64 (0 : Int))] [] [] Sto.empty)) := by kernel_rfl
theorem rightR_i (l : List Ck) (Q : AVal → Sto → Prop) (ho : OrcOk Try.prog cRightR) (h : loopV (fun s => St.norm [] [0, 3, 4] [] s) (vc Try.prog cRightR code_20_1_1_0_1_0_0) (blockK 0 (thenK (fun s => cutV (vc Try.prog cRightR code_20_1_1_1 (endK Try.prog (Array.toList (Go.Func.results Try.f20)) Q)) (St.norm [] [] [] s)) (endK Try.prog (Array.toList (Go.Func.results Try.f20)) Q))) (St.mk 102 [(0, AVal.slice (ckv l) 4 Tag.ro), (3, AVal.int IntKind.i64 (-1 : Int)), (4, AVal.int IntKind.i64 (0 : Int))] [] [] Sto.empty)) : ACall Try.prog 20 [.slice (ckv l) 4 .ro] (Sto.empty) Q :=
  ACall.intro hmix Try.func20 (c := code_20_) (by kernel_rfl) cRightR ho (Nat.le_of_ble_eq_true (by kernel_rfl)) (by rw [rightR_r]; exact h)
noncomputable def rightRL_S (l : List Ck) (la : Int) (i : Nat) : St := St.mk 102 [(0, .slice (ckv l) 4 .ro), (3, .int .i64 la), (4, .int .i64 (i : Int))] [] [] (Sto.empty)
noncomputable abbrev rightRL_C : Code := code_20_1_1_0_1_0_0
theorem rightRL_r (l : List Ck) (la : Int) (i : Nat) (L : St → Prop) (K : Exit → St → Prop) : vc Try.prog cRightR code_20_1_1_0_1_0_0 (thenK (fun s => L (St.norm [] [0, 3, 4] [] s)) K) (St.mk 102 [(0, .slice (ckv l) 4 .ro), (3, .int .i64 la), (4, .int .i64 (i : Int))] [] [] (Sto.empty)) =
  (brV (hold (decide ((↑i : Int) < (↑(List.length (ckv l)) : Int)))) true (gb (decide ((0 : Int) ≤ (↑i : Int) ∧ (↑i : Int) < (↑(List.length (ckv l)) : Int))) (gb (decide (4 ≤ List.length (elemAt (ckv l) (↑i : Int)) ∧ 0 < 4) && (etaOk (Sh.int IntKind.i64) (List.getD (elemAt (ckv l) (↑i : Int)) 0 AVal.undef) && (sliceOk 1 (List.getD (elemAt (ckv l) (↑i : Int)) 1 AVal.undef) && (etaOk (Sh.int IntKind.i64) (List.getD (elemAt (ckv l) (↑i : Int)) 2 AVal.undef) && (etaOk Sh.bool (List.getD (elemAt (ckv l) (↑i : Int)) 3 AVal.undef) && true))))) (cutV (vc Try.prog cRightR code_20_1_1_0_1_0_0_1_0_0_1_1 (blockK 1 (thenK (fun s => cutV (vc Try.prog cRightR code_20_1_1_0_1_0_0_1_1 (thenK (fun s => L (St.norm [] [0, 3, 4] [] s)) K)) (St.norm [] [0, 3, 4] [] s)) (thenK (fun s => L (St.norm [] [0, 3, 4] [] s)) K)))) (St.mk 102 [(0, AVal.slice (ckv l) 4 Tag.ro), (3, AVal.int IntKind.i64 la), (4, AVal.int IntKind.i64 (↑i : Int)), (5, AVal.ptr (Oid.loc 5) 0), (6, AVal.int IntKind.i64 (0 : Int))] [] [(5, AObj.cells [AVal.int IntKind.i64 (AVal.intOf (List.getD (elemAt (ckv l) (↑i : Int)) 0 AVal.undef)), AVal.slice (AVal.elems (List.getD (elemAt (ckv l) (↑i : Int)) 1 AVal.undef)) 1 Tag.ro, AVal.int IntKind.i64 (AVal.intOf (List.getD (elemAt (ckv l) (↑i : Int)) 2 AVal.undef)), AVal.bool (AVal.boolOf (List.getD (elemAt (ckv l) (↑i : Int)) 3 AVal.undef))])] Sto.empty)))) (K (Exit.exit 0) (St.mk 102 [(0, AVal.slice (ckv l) 4 Tag.ro), (3, AVal.int IntKind.i64 la), (4, AVal.int IntKind.i64 (↑i : Int)), (12, AVal.bool (hold (decide ((↑i : Int) < (↑(List.length (ckv l)) : Int)))))] [] [] Sto.empty))) := by kernel_rfl
noncomputable def rightRI_S (l : List Ck) (la : Int) (i : Nat) : St := St.mk 102 [(0, .slice (ckv l) 4 .ro), (3, .int .i64 la), (4, .int .i64 (i : Int))] [] [] (Sto.empty)
noncomputable abbrev rightRI_C : Code := code_20_1_1_0_1_0_0_1_1
theorem rightRI_r (l : List Ck) (la : Int) (i : Nat) (K : Exit → St → Prop) : vc Try.prog cRightR code_20_1_1_0_1_0_0_1_1 K (St.mk 102 [(0, .slice (ckv l) 4 .ro), (3, .int .i64 la), (4, .int .i64 (i : Int))] [] [] (Sto.empty)) =
  (K Exit.normal (St.mk 102 [(0, AVal.slice (ckv l) 4 Tag.ro), (3, AVal.int IntKind.i64 la), (4, AVal.int IntKind.i64 (IntKind.wrap IntKind.i64 ((↑i : Int) + (1 : Int))))] [] [] Sto.empty)) := by kernel_rfl
noncomputable def rightRA_S (l : List Ck) (la : Int) (i : Nat) (c : Ck) (nx : Int) : St := St.mk 102 [(0, .slice (ckv l) 4 .ro), (3, .int .i64 la), (4, .int .i64 (i : Int)), (5, .ptr (.loc 5) 0), (6, .int .i64 nx)] [] [(5, .cells (ckC c))] (Sto.empty)
noncomputable abbrev rightRA_C : Code := code_20_1_1_0_1_0_0_1_0_0_1_1_0_1_0_1
theorem rightRA_r (l : List Ck) (la : Int) (i : Nat) (c : Ck) (nx : Int) (K : Exit → St → Prop) : vc Try.prog cRightR code_20_1_1_0_1_0_0_1_0_0_1_1_0_1_0_1 K (St.mk 102 [(0, .slice (ckv l) 4 .ro), (3, .int .i64 la), (4, .int .i64 (i : Int)), (5, .ptr (.loc 5) 0), (6, .int .i64 nx)] [] [(5, .cells (ckC c))] (Sto.empty)) =
  (brV (hold (nx == (0 : Int))) true (K Exit.ret (St.mk 102 [(0, AVal.slice (ckv l) 4 Tag.ro), (3, AVal.int IntKind.i64 la), (4, AVal.int IntKind.i64 (↑i : Int)), (5, AVal.ptr (Oid.loc 5) 0), (6, AVal.int IntKind.i64 nx), (31, AVal.bool (hold (nx == (0 : Int)))), (2, AVal.bool false)] [] [(5, AObj.cells [AVal.int IntKind.i64 (Prod.fst c), AVal.slice (iv (Prod.fst (Prod.snd c))) 1 Tag.ro, AVal.int IntKind.i64 (Prod.fst (Prod.snd (Prod.snd c))), AVal.bool (Prod.snd (Prod.snd (Prod.snd c)))])] Sto.empty)) (K Exit.normal (St.mk 102 [(0, AVal.slice (ckv l) 4 Tag.ro), (3, AVal.int IntKind.i64 la), (4, AVal.int IntKind.i64 (↑i : Int)), (5, AVal.ptr (Oid.loc 5) 0), (6, AVal.int IntKind.i64 nx), (31, AVal.bool (hold (nx == (0 : Int))))] [] [(5, AObj.cells [AVal.int IntKind.i64 (Prod.fst c), AVal.slice (iv (Prod.fst (Prod.snd c))) 1 Tag.ro, AVal.int IntKind.i64 (Prod.fst (Prod.snd (Prod.snd c))), AVal.bool (Prod.snd (Prod.snd (Prod.snd c)))])] Sto.empty))) := by kernel_rfl
noncomputable def rightRB_S (l : List Ck) (la : Int) (i : Nat) (c : Ck) (nx : Int) : St := St.mk 102 [(0, .slice (ckv l) 4 .ro), (3, .int .i64 la), (4, .int .i64 (i : Int)), (5, .ptr (.loc 5) 0), (6, .int .i64 nx)] [] [(5, .cells (ckC c))] (Sto.empty)
noncomputable abbrev rightRB_C : Code := code_20_1_1_0_1_0_0_1_0_0_1_1_1
theorem rightRB_r (l : List Ck) (la : Int) (i : Nat) (c : Ck) (nx : Int) (K : Exit → St → Prop) : vc Try.prog cRightR code_20_1_1_0_1_0_0_1_0_0_1_1_1 K (St.mk 102 [(0, .slice (ckv l) 4 .ro), (3, .int .i64 la), (4, .int .i64 (i : Int)), (5, .ptr (.loc 5) 0), (6, .int .i64 nx)] [] [(5, .cells (ckC c))] (Sto.empty)) =
  (brV (hold ((↑i : Int) == (0 : Int))) true (brV (hold (Prod.fst c != (0 : Int))) false (brV (hold (decide ((0 : Int) < (↑i : Int)))) true (brV (hold ((↑(List.length (iv (Prod.fst (Prod.snd c)))) : Int) == (0 : Int))) false (brV (hold (decide (Prod.fst c < (0 : Int)))) false (brV (Prod.snd (Prod.snd (Prod.snd c))) false (brV (hold (Prod.fst (Prod.snd (Prod.snd c)) != nx)) false (brV (hold (decide ((4 : Int) < (↑(List.length (iv (Prod.fst (Prod.snd c)))) : Int)))) true (K Exit.ret (St.mk 102 [(0, AVal.slice (ckv l) 4 Tag.ro), (3, AVal.int IntKind.i64 la), (4, AVal.int IntKind.i64 (↑i : Int)), (5, AVal.ptr (Oid.loc 5) 0), (6, AVal.int IntKind.i64 nx), (69, AVal.bool (hold (decide ((4 : Int) < (↑(List.length (iv (Prod.fst (Prod.snd c)))) : Int))))), (2, AVal.bool false)] [] [(5, AObj.cells [AVal.int IntKind.i64 (Prod.fst c), AVal.slice (iv (Prod.fst (Prod.snd c))) 1 Tag.ro, AVal.int IntKind.i64 (Prod.fst (Prod.snd (Prod.snd c))), AVal.bool (Prod.snd (Prod.snd (Prod.snd c)))])] Sto.empty)) (cutV (vc Try.prog cRightR code_20_1_1_0_1_0_0_1_0_0_1_1_1_1 K) (St.mk 102 [(0, AVal.slice (ckv l) 4 Tag.ro), (3, AVal.int IntKind.i64 la), (4, AVal.int IntKind.i64 (↑i : Int)), (5, AVal.ptr (Oid.loc 5) 0)] [] [(5, AObj.cells [AVal.int IntKind.i64 (Prod.fst c), AVal.slice (iv (Prod.fst (Prod.snd c))) 1 Tag.ro, AVal.int IntKind.i64 (Prod.fst (Prod.snd (Prod.snd c))), AVal.bool (Prod.snd (Prod.snd (Prod.snd c)))])] Sto.empty))) (K Exit.ret (St.mk 102 [(0, AVal.slice (ckv l) 4 Tag.ro), (3, AVal.int IntKind.i64 la), (4, AVal.int IntKind.i64 (↑i : Int)), (5, AVal.ptr (Oid.loc 5) 0), (6, AVal.int IntKind.i64 nx), (69, AVal.bool true), (2, AVal.bool false)] [] [(5, AObj.cells [AVal.int IntKind.i64 (Prod.fst c), AVal.slice (iv (Prod.fst (Prod.snd c))) 1 Tag.ro, AVal.int IntKind.i64 (Prod.fst (Prod.snd (Prod.snd c))), AVal.bool (Prod.snd (Prod.snd (Prod.snd c)))])] Sto.empty))) (K Exit.ret (St.mk 102 [(0, AVal.slice (ckv l) 4 Tag.ro), (3, AVal.int IntKind.i64 la), (4, AVal.int IntKind.i64 (↑i : Int)), (5, AVal.ptr (Oid.loc 5) 0), (6, AVal.int IntKind.i64 nx), (69, AVal.bool true), (2, AVal.bool false)] [] [(5, AObj.cells [AVal.int IntKind.i64 (Prod.fst c), AVal.slice (iv (Prod.fst (Prod.snd c))) 1 Tag.ro, AVal.int IntKind.i64 (Prod.fst (Prod.snd (Prod.snd c))), AVal.bool (Prod.snd (Prod.snd (Prod.snd c)))])] Sto.empty))) (K Exit.ret (St.mk 102 [(0, AVal.slice (ckv l) 4 Tag.ro), (3, AVal.int IntKind.i64 la), (4, AVal.int IntKind.i64 (↑i : Int)), (5, AVal.ptr (Oid.loc 5) 0), (6, AVal.int IntKind.i64 nx), (69, AVal.bool true), (2, AVal.bool false)] [] [(5, AObj.cells [AVal.int IntKind.i64 (Prod.fst c), AVal.slice (iv (Prod.fst (Prod.snd c))) 1 Tag.ro, AVal.int IntKind.i64 (Prod.fst (Prod.snd (Prod.snd c))), AVal.bool (Prod.snd (Prod.snd (Prod.snd c)))])] Sto.empty))) (K Exit.ret (St.mk 102 [(0, AVal.slice (ckv l) 4 Tag.ro), (3, AVal.int IntKind.i64 la), (4, AVal.int IntKind.i64 (↑i : Int)), (5, AVal.ptr (Oid.loc 5) 0), (6, AVal.int IntKind.i64 nx), (69, AVal.bool true), (2, AVal.bool false)] [] [(5, AObj.cells [AVal.int IntKind.i64 (Prod.fst c), AVal.slice (iv (Prod.fst (Prod.snd c))) 1 Tag.ro, AVal.int IntKind.i64 (Prod.fst (Prod.snd (Prod.snd c))), AVal.bool (Prod.snd (Prod.snd (Prod.snd c)))])] Sto.empty))) (brV (hold (decide (Prod.fst c < (0 : Int)))) false (brV (Prod.snd (Prod.snd (Prod.snd c))) false (brV (hold (Prod.fst (Prod.snd (Prod.snd c)) != nx)) false (brV (hold (decide ((4 : Int) < (↑(List.length (iv (Prod.fst (Prod.snd c)))) : Int)))) true (K Exit.ret (St.mk 102 [(0, AVal.slice (ckv l) 4 Tag.ro), (3, AVal.int IntKind.i64 la), (4, AVal.int IntKind.i64 (↑i : Int)), (5, AVal.ptr (Oid.loc 5) 0), (6, AVal.int IntKind.i64 nx), (69, AVal.bool (hold (decide ((4 : Int) < (↑(List.length (iv (Prod.fst (Prod.snd c)))) : Int))))), (2, AVal.bool false)] [] [(5, AObj.cells [AVal.int IntKind.i64 (Prod.fst c), AVal.slice (iv (Prod.fst (Prod.snd c))) 1 Tag.ro, AVal.int IntKind.i64 (Prod.fst (Prod.snd (Prod.snd c))), AVal.bool (Prod.snd (Prod.snd (Prod.snd c)))])] Sto.empty)) (cutV (vc Try.prog cRightR code_20_1_1_0_1_0_0_1_0_0_1_1_1_1 K) (St.mk 102 [(0, AVal.slice (ckv l) 4 Tag.ro), (3, AVal.int IntKind.i64 la), (4, AVal.int IntKind.i64 (↑i : Int)), (5, AVal.ptr (Oid.loc 5) 0)] [] [(5, AObj.cells [AVal.int IntKind.i64 (Prod.fst c), AVal.slice (iv (Prod.fst (Prod.snd c))) 1 Tag.ro, AVal.int IntKind.i64 (Prod.fst (Prod.snd (Prod.snd c))), AVal.bool (Prod.snd (Prod.snd (Prod.snd c)))])] Sto.empty))) (K Exit.ret (St.mk 102 [(0, AVal.slice (ckv l) 4 Tag.ro), (3, AVal.int IntKind.i64 la), (4, AVal.int IntKind.i64 (↑i : Int)), (5, AVal.ptr (Oid.loc 5) 0), (6, AVal.int IntKind.i64 nx), (69, AVal.bool true), (2, AVal.bool false)] [] [(5, AObj.cells [AVal.int IntKind.i64 (Prod.fst c), AVal.slice (iv (Prod.fst (Prod.snd c))) 1 Tag.ro, AVal.int IntKind.i64 (Prod.fst (Prod.snd (Prod.snd c))), AVal.bool (Prod.snd (Prod.snd (Prod.snd c)))])] Sto.empty))) (K Exit.ret (St.mk 102 [(0, AVal.slice (ckv l) 4 Tag.ro), (3, AVal.int IntKind.i64 la), (4, AVal.int IntKind.i64 (↑i : Int)), (5, AVal.ptr (Oid.loc 5) 0), (6, AVal.int IntKind.i64 nx), (69, AVal.bool true), (2, AVal.bool false)] [] [(5, AObj.cells [AVal.int IntKind.i64 (Prod.fst c), AVal.slice (iv (Prod.fst (Prod.snd c))) 1 Tag.ro, AVal.int IntKind.i64 (Prod.fst (Prod.snd (Prod.snd c))), AVal.bool (Prod.snd (Prod.snd (Prod.snd c)))])] Sto.empty))) (K Exit.ret (St.mk 102 [(0, AVal.slice (ckv l) 4 Tag.ro), (3, AVal.int IntKind.i64 la), (4, AVal.int IntKind.i64 (↑i : Int)), (5, AVal.ptr (Oid.loc 5) 0), (6, AVal.int IntKind.i64 nx), (69, AVal.bool true), (2, AVal.bool false)] [] [(5, AObj.cells [AVal.int IntKind.i64 (Prod.fst c), AVal.slice (iv (Prod.fst (Prod.snd c))) 1 Tag.ro, AVal.int IntKind.i64 (Prod.fst (Prod.snd (Prod.snd c))), AVal.bool (Prod.snd (Prod.snd (Prod.snd c)))])] Sto.empty)))) (K Exit.ret (St.mk 102 [(0, AVal.slice (ckv l) 4 Tag.ro), (3, AVal.int IntKind.i64 la), (4, AVal.int IntKind.i64 (↑i : Int)), (5, AVal.ptr (Oid.loc 5) 0), (6, AVal.int IntKind.i64 nx), (69, AVal.bool true), (2, AVal.bool false)] [] [(5, AObj.cells [AVal.int IntKind.i64 (Prod.fst c), AVal.slice (iv (Prod.fst (Prod.snd c))) 1 Tag.ro, AVal.int IntKind.i64 (Prod.fst (Prod.snd (Prod.snd c))), AVal.bool (Prod.snd (Prod.snd (Prod.snd c)))])] Sto.empty))) (brV (hold (decide ((0 : Int) < (↑i : Int)))) true (brV (hold ((↑(List.length (iv (Prod.fst (Prod.snd c)))) : Int) == (0 : Int))) false (brV (hold (decide (Prod.fst c < (0 : Int)))) false (brV (Prod.snd (Prod.snd (Prod.snd c))) false (brV (hold (Prod.fst (Prod.snd (Prod.snd c)) != nx)) false (brV (hold (decide ((4 : Int) < (↑(List.length (iv (Prod.fst (Prod.snd c)))) : Int)))) true (K Exit.ret (St.mk 102 [(0, AVal.slice (ckv l) 4 Tag.ro), (3, AVal.int IntKind.i64 la), (4, AVal.int IntKind.i64 (↑i : Int)), (5, AVal.ptr (Oid.loc 5) 0), (6, AVal.int IntKind.i64 nx), (69, AVal.bool (hold (decide ((4 : Int) < (↑(List.length (iv (Prod.fst (Prod.snd c)))) : Int))))), (2, AVal.bool false)] [] [(5, AObj.cells [AVal.int IntKind.i64 (Prod.fst c), AVal.slice (iv (Prod.fst (Prod.snd c))) 1 Tag.ro, AVal.int IntKind.i64 (Prod.fst (Prod.snd (Prod.snd c))), AVal.bool (Prod.snd (Prod.snd (Prod.snd c)))])] Sto.empty)) (cutV (vc Try.prog cRightR code_20_1_1_0_1_0_0_1_0_0_1_1_1_1 K) (St.mk 102 [(0, AVal.slice (ckv l) 4 Tag.ro), (3, AVal.int IntKind.i64 la), (4, AVal.int IntKind.i64 (↑i : Int)), (5, AVal.ptr (Oid.loc 5) 0)] [] [(5, AObj.cells [AVal.int IntKind.i64 (Prod.fst c), AVal.slice (iv (Prod.fst (Prod.snd c))) 1 Tag.ro, AVal.int IntKind.i64 (Prod.fst (Prod.snd (Prod.snd c))), AVal.bool (Prod.snd (Prod.snd (Prod.snd c)))])] Sto.empty))) (K Exit.ret (St.mk 102 [(0, AVal.slice (ckv l) 4 Tag.ro), (3, AVal.int IntKind.i64 la), (4, AVal.int IntKind.i64 (↑i : Int)), (5, AVal.ptr (Oid.loc 5) 0), (6, AVal.int IntKind.i64 nx), (69, AVal.bool true), (2, AVal.bool false)] [] [(5, AObj.cells [AVal.int IntKind.i64 (Prod.fst c), AVal.slice (iv (Prod.fst (Prod.snd c))) 1 Tag.ro, AVal.int IntKind.i64 (Prod.fst (Prod.snd (Prod.snd c))), AVal.bool (Prod.snd (Prod.snd (Prod.snd c)))])] Sto.empty))) (K Exit.ret (St.mk 102 [(0, AVal.slice (ckv l) 4 Tag.ro), (3, AVal.int IntKind.i64 la), (4, AVal.int IntKind.i64 (↑i : Int)), (5, AVal.ptr (Oid.loc 5) 0), (6, AVal.int IntKind.i64 nx), (69, AVal.bool true), (2, AVal.bool false)] [] [(5, AObj.cells [AVal.int IntKind.i64 (Prod.fst c), AVal.slice (iv (Prod.fst (Prod.snd c))) 1 Tag.ro, AVal.int IntKind.i64 (Prod.fst (Prod.snd (Prod.snd c))), AVal.bool (Prod.snd (Prod.snd (Prod.snd c)))])] Sto.empty))) (K Exit.ret (St.mk 102 [(0, AVal.slice (ckv l) 4 Tag.ro), (3, AVal.int IntKind.i64 la), (4, AVal.int IntKind.i64 (↑i : Int)), (5, AVal.ptr (Oid.loc 5) 0), (6, AVal.int IntKind.i64 nx), (69, AVal.bool true), (2, AVal.bool false)] [] [(5, AObj.cells [AVal.int IntKind.i64 (Prod.fst c), AVal.slice (iv (Prod.fst (Prod.snd c))) 1 Tag.ro, AVal.int IntKind.i64 (Prod.fst (Prod.snd (Prod.snd c))), AVal.bool (Prod.snd (Prod.snd (Prod.snd c)))])] Sto.empty))) (K Exit.ret (St.mk 102 [(0, AVal.slice (ckv l) 4 Tag.ro), (3, AVal.int IntKind.i64 la), (4, AVal.int IntKind.i64 (↑i : Int)), (5, AVal.ptr (Oid.loc 5) 0), (6, AVal.int IntKind.i64 nx), (69, AVal.bool true), (2, AVal.bool false)] [] [(5, AObj.cells [AVal.int IntKind.i64 (Prod.fst c), AVal.slice (iv (Prod.fst (Prod.snd c))) 1 Tag.ro, AVal.int IntKind.i64 (Prod.fst (Prod.snd (Prod.snd c))), AVal.bool (Prod.snd (Prod.snd (Prod.snd c)))])] Sto.empty))) (brV (hold (decide (Prod.fst c < (0 : Int)))) false (brV (Prod.snd (Prod.snd (Prod.snd c))) false (brV (hold (Prod.fst (Prod.snd (Prod.snd c)) != nx)) false (brV (hold (decide ((4 : Int) < (↑(List.length (iv (Prod.fst (Prod.snd c)))) : Int)))) true (K Exit.ret (St.mk 102 [(0, AVal.slice (ckv l) 4 Tag.ro), (3, AVal.int IntKind.i64 la), (4, AVal.int IntKind.i64 (↑i : Int)), (5, AVal.ptr (Oid.loc 5) 0), (6, AVal.int IntKind.i64 nx), (69, AVal.bool (hold (decide ((4 : Int) < (↑(List.length (iv (Prod.fst (Prod.snd c)))) : Int))))), (2, AVal.bool false)] [] [(5, AObj.cells [AVal.int IntKind.i64 (Prod.fst c), AVal.slice (iv (Prod.fst (Prod.snd c))) 1 Tag.ro, AVal.int IntKind.i64 (Prod.fst (Prod.snd (Prod.snd c))), AVal.bool (Prod.snd (Prod.snd (Prod.snd c)))])] Sto.empty)) (cutV (vc Try.prog cRightR code_20_1_1_0_1_0_0_1_0_0_1_1_1_1 K) (St.mk 102 [(0, AVal.slice (ckv l) 4 Tag.ro), (3, AVal.int IntKind.i64 la), (4, AVal.int IntKind.i64 (↑i : Int)), (5, AVal.ptr (Oid.loc 5) 0)] [] [(5, AObj.cells [AVal.int IntKind.i64 (Prod.fst c), AVal.slice (iv (Prod.fst (Prod.snd c))) 1 Tag.ro, AVal.int IntKind.i64 (Prod.fst (Prod.snd (Prod.snd c))), AVal.bool (Prod.snd (Prod.snd (Prod.snd c)))])] Sto.empty))) (K Exit.ret (St.mk 102 [(0, AVal.slice (ckv l) 4 Tag.ro), (3, AVal.int IntKind.i64 la), (4, AVal.int IntKind.i64 (↑i : Int)), (5, AVal.ptr (Oid.loc 5) 0), (6, AVal.int IntKind.i64 nx), (69, AVal.bool true), (2, AVal.bool false)] [] [(5, AObj.cells [AVal.int IntKind.i64 (Prod.fst c), AVal.slice (iv (Prod.fst (Prod.snd c))) 1 Tag.ro, AVal.int IntKind.i64 (Prod.fst (Prod.snd (Prod.snd c))), AVal.bool (Prod.snd (Prod.snd (Prod.snd c)))])] Sto.empty))) (K Exit.ret (St.mk 102 [(0, AVal.slice (ckv l) 4 Tag.ro), (3, AVal.int IntKind.i64 la), (4, AVal.int IntKind.i64 (↑i : Int)), (5, AVal.ptr (Oid.loc 5) 0), (6, AVal.int IntKind.i64 nx), (69, AVal.bool true), (2, AVal.bool false)] [] [(5, AObj.cells [AVal.int IntKind.i64 (Prod.fst c), AVal.slice (iv (Prod.fst (Prod.snd c))) 1 Tag.ro, AVal.int IntKind.i64 (Prod.fst (Prod.snd (Prod.snd c))), AVal.bool (Prod.snd (Prod.snd (Prod.snd c)))])] Sto.empty))) (K Exit.ret (St.mk 102 [(0, AVal.slice (ckv l) 4 Tag.ro), (3, AVal.int IntKind.i64 la), (4, AVal.int IntKind.i64 (↑i : Int)), (5, AVal.ptr (Oid.loc 5) 0), (6, AVal.int IntKind.i64 nx), (69, AVal.bool true), (2, AVal.bool false)] [] [(5, AObj.cells [AVal.int IntKind.i64 (Prod.fst c), AVal.slice (iv (Prod.fst (Prod.snd c))) 1 Tag.ro, AVal.int IntKind.i64 (Prod.fst (Prod.snd (Prod.snd c))), AVal.bool (Prod.snd (Prod.snd (Prod.snd c)))])] Sto.empty))))) := by kernel_rfl
noncomputable def rightRC_S (l : List Ck) (la : Int) (i : Nat) (c : Ck) : St := St.mk 102 [(0, .slice (ckv l) 4 .ro), (3, .int .i64 la), (4, .int .i64 (i : Int)), (5, .ptr (.loc 5) 0)] [] [(5, .cells (ckC c))] (Sto.empty)
noncomputable abbrev rightRC_C : Code := code_20_1_1_0_1_0_0_1_0_0_1_1_1_1
theorem rightRC_r (l : List Ck) (la : Int) (i : Nat) (c : Ck) (K : Exit → St → Prop) : vc Try.prog cRightR code_20_1_1_0_1_0_0_1_0_0_1_1_1_1 K (St.mk 102 [(0, .slice (ckv l) 4 .ro), (3, .int .i64 la), (4, .int .i64 (i : Int)), (5, .ptr (.loc 5) 0)] [] [(5, .cells (ckC c))] (Sto.empty)) =
  (loopV (fun s => St.norm [] [0, 3, 4, 5, 7] [5] s) (vc Try.prog cRightR code_20_1_1_0_1_0_0_1_0_0_1_1_1_1_0_1_0_0) (blockK 2 (thenK (fun s => cutV (vc Try.prog cRightR code_20_1_1_0_1_0_0_1_0_0_1_1_1_1_1 K) (St.norm [] [0, 3, 4, 5] [5] s)) K)) (St.mk 102 [(0, AVal.slice (ckv l) 4 Tag.ro), (3, AVal.int IntKind.i64 la), (4, AVal.int IntKind.i64 (↑i : Int)), (5, AVal.ptr (Oid.loc 5) 0), (7, AVal.int IntKind.i64 (0 : Int))] [] [(5, AObj.cells [AVal.int IntKind.i64 (Prod.fst c), AVal.slice (iv (Prod.fst (Prod.snd c))) 1 Tag.ro, AVal.int IntKind.i64 (Prod.fst (Prod.snd (Prod.snd c))), AVal.bool (Prod.snd (Prod.snd (Prod.snd c)))])] Sto.empty)) := by kernel_rfl
noncomputable def rightRD_S (l : List Ck) (la : Int) (i : Nat) (c : Ck) : St := St.mk 102 [(0, .slice (ckv l) 4 .ro), (3, .int .i64 la), (4, .int .i64 (i : Int)), (5, .ptr (.loc 5) 0)] [] [(5, .cells (ckC c))] (Sto.empty)
noncomputable abbrev rightRD_C : Code := code_20_1_1_0_1_0_0_1_0_0_1_1_1_1_1
theorem rightRD_r (l : List Ck) (la : Int) (i : Nat) (c : Ck) (K : Exit → St → Prop) : vc Try.prog cRightR code_20_1_1_0_1_0_0_1_0_0_1_1_1_1_1 K (St.mk 102 [(0, .slice (ckv l) 4 .ro), (3, .int .i64 la), (4, .int .i64 (i : Int)), (5, .ptr (.loc 5) 0)] [] [(5, .cells (ckC c))] (Sto.empty)) =
  (loopV (fun s => St.norm [] [0, 3, 4, 5, 8] [5] s) (vc Try.prog cRightR code_20_1_1_0_1_0_0_1_0_0_1_1_1_1_1_1_0_0) (blockK 4 K) (St.mk 102 [(0, AVal.slice (ckv l) 4 Tag.ro), (3, AVal.int IntKind.i64 la), (4, AVal.int IntKind.i64 (↑i : Int)), (5, AVal.ptr (Oid.loc 5) 0), (8, AVal.int IntKind.i64 (0 : Int))] [] [(5, AObj.cells [AVal.int IntKind.i64 (Prod.fst c), AVal.slice (iv (Prod.fst (Prod.snd c))) 1 Tag.ro, AVal.int IntKind.i64 (Prod.fst (Prod.snd (Prod.snd c))), AVal.bool (Prod.snd (Prod.snd (Prod.snd c)))])] Sto.empty)) := by kernel_rfl
noncomputable def rightRM_S (l : List Ck) (la : Int) (i : Nat) (c : Ck) (k : Nat) : St := St.mk 102 [(0, .slice (ckv l) 4 .ro), (3, .int .i64 la), (4, .int .i64 (i : Int)), (5, .ptr (.loc 5) 0), (7, .int .i64 (k : Int))] [] [(5, .cells (ckC c))] (Sto.empty)
noncomputable abbrev rightRM_C : Code := code_20_1_1_0_1_0_0_1_0_0_1_1_1_1_0_1_0_0
theorem rightRM_r (l : List Ck) (la : Int) (i : Nat) (c : Ck) (k : Nat) (L : St → Prop) (K : Exit → St → Prop) : vc Try.prog cRightR code_20_1_1_0_1_0_0_1_0_0_1_1_1_1_0_1_0_0 (thenK (fun s => L (St.norm [] [0, 3, 4, 5, 7] [5] s)) K) (St.mk 102 [(0, .slice (ckv l) 4 .ro), (3, .int .i64 la), (4, .int .i64 (i : Int)), (5, .ptr (.loc 5) 0), (7, .int .i64 (k : Int))] [] [(5, .cells (ckC c))] (Sto.empty)) =
  (brV (hold (decide ((↑k : Int) < (↑i : Int)))) true (gb (decide ((0 : Int) ≤ (↑k : Int) ∧ (↑k : Int) < (↑(List.length (ckv l)) : Int))) (gb (decide (1 ≤ List.length (List.drop 0 (elemAt (ckv l) (↑k : Int))) ∧ 0 < 1) && etaOk (Sh.int IntKind.i64) (List.getD (List.drop 0 (elemAt (ckv l) (↑k : Int))) 0 AVal.undef)) (brV (hold (AVal.intOf (List.getD (List.drop 0 (elemAt (ckv l) (↑k : Int))) 0 AVal.undef) == Prod.fst c)) true (K Exit.ret (St.mk 102 [(0, AVal.slice (ckv l) 4 Tag.ro), (3, AVal.int IntKind.i64 la), (4, AVal.int IntKind.i64 (↑i : Int)), (5, AVal.ptr (Oid.loc 5) 0), (7, AVal.int IntKind.i64 (↑k : Int)), (72, AVal.bool (hold (decide ((↑k : Int) < (↑i : Int))))), (82, AVal.bool (hold (AVal.intOf (List.getD (List.drop 0 (elemAt (ckv l) (↑k : Int))) 0 AVal.undef) == Prod.fst c))), (2, AVal.bool false)] [] [(5, AObj.cells [AVal.int IntKind.i64 (Prod.fst c), AVal.slice (iv (Prod.fst (Prod.snd c))) 1 Tag.ro, AVal.int IntKind.i64 (Prod.fst (Prod.snd (Prod.snd c))), AVal.bool (Prod.snd (Prod.snd (Prod.snd c)))])] Sto.empty)) (L (St.mk 102 [(0, AVal.slice (ckv l) 4 Tag.ro), (3, AVal.int IntKind.i64 la), (4, AVal.int IntKind.i64 (↑i : Int)), (5, AVal.ptr (Oid.loc 5) 0), (7, AVal.int IntKind.i64 (IntKind.wrap IntKind.i64 ((↑k : Int) + (1 : Int))))] [] [(5, AObj.cells [AVal.int IntKind.i64 (Prod.fst c), AVal.slice (iv (Prod.fst (Prod.snd c))) 1 Tag.ro, AVal.int IntKind.i64 (Prod.fst (Prod.snd (Prod.snd c))), AVal.bool (Prod.snd (Prod.snd (Prod.snd c)))])] Sto.empty))))) (K (Exit.exit 2) (St.mk 102 [(0, AVal.slice (ckv l) 4 Tag.ro), (3, AVal.int IntKind.i64 la), (4, AVal.int IntKind.i64 (↑i : Int)), (5, AVal.ptr (Oid.loc 5) 0), (7, AVal.int IntKind.i64 (↑k : Int)), (72, AVal.bool (hold (decide ((↑k : Int) < (↑i : Int)))))] [] [(5, AObj.cells [AVal.int IntKind.i64 (Prod.fst c), AVal.slice (iv (Prod.fst (Prod.snd c))) 1 Tag.ro, AVal.int IntKind.i64 (Prod.fst (Prod.snd (Prod.snd c))), AVal.bool (Prod.snd (Prod.snd (Prod.snd c)))])] Sto.empty))) := by kernel_rfl
noncomputable def rightRN_S (l : List Ck) (la : Int) (i : Nat) (c : Ck) (k : Nat) : St := St.mk 102 [(0, .slice (ckv l) 4 .ro), (3, .int .i64 la), (4, .int .i64 (i : Int)), (5, .ptr (.loc 5) 0), (8, .int .i64 (k : Int))] [] [(5, .cells (ckC c))] (Sto.empty)
noncomputable abbrev rightRN_C : Code := code_20_1_1_0_1_0_0_1_0_0_1_1_1_1_1_1_0_0
theorem rightRN_r (l : List Ck) (la : Int) (i : Nat) (c : Ck) (k : Nat) (L : St → Prop) (K : Exit → St → Prop) : vc Try.prog cRightR code_20_1_1_0_1_0_0_1_0_0_1_1_1_1_1_1_0_0 (thenK (fun s => L (St.norm [] [0, 3, 4, 5, 8] [5] s)) K) (St.mk 102 [(0, .slice (ckv l) 4 .ro), (3, .int .i64 la), (4, .int .i64 (i : Int)), (5, .ptr (.loc 5) 0), (8, .int .i64 (k : Int))] [] [(5, .cells (ckC c))] (Sto.empty)) =
  (brV (hold (decide ((↑k : Int) < (↑(List.length (iv (Prod.fst (Prod.snd c)))) : Int)))) true (gb (decide ((0 : Int) ≤ (↑k : Int) ∧ (↑k : Int) < (↑(List.length (iv (Prod.fst (Prod.snd c)))) : Int))) (gb (decide (1 ≤ List.length (elemAt (iv (Prod.fst (Prod.snd c))) (↑k : Int)) ∧ 0 < 1) && etaOk (Sh.int IntKind.i64) (List.getD (elemAt (iv (Prod.fst (Prod.snd c))) (↑k : Int)) 0 AVal.undef)) (brV (hold (decide (AVal.intOf (List.getD (elemAt (iv (Prod.fst (Prod.snd c))) (↑k : Int)) 0 AVal.undef) ≤ la))) true (K Exit.ret (St.mk 102 [(0, AVal.slice (ckv l) 4 Tag.ro), (3, AVal.int IntKind.i64 la), (4, AVal.int IntKind.i64 (↑i : Int)), (5, AVal.ptr (Oid.loc 5) 0), (8, AVal.int IntKind.i64 (↑k : Int)), (87, AVal.bool (hold (decide ((↑k : Int) < (↑(List.length (iv (Prod.fst (Prod.snd c)))) : Int))))), (96, AVal.bool (hold (decide (AVal.intOf (List.getD (elemAt (iv (Prod.fst (Prod.snd c))) (↑k : Int)) 0 AVal.undef) ≤ la)))), (2, AVal.bool false)] [] [(5, AObj.cells [AVal.int IntKind.i64 (Prod.fst c), AVal.slice (iv (Prod.fst (Prod.snd c))) 1 Tag.ro, AVal.int IntKind.i64 (Prod.fst (Prod.snd (Prod.snd c))), AVal.bool (Prod.snd (Prod.snd (Prod.snd c)))])] Sto.empty)) (gb (decide ((0 : Int) ≤ (↑k : Int) ∧ (↑k : Int) < (↑(List.length (iv (Prod.fst (Prod.snd c)))) : Int))) (gb (decide (1 ≤ List.length (elemAt (iv (Prod.fst (Prod.snd c))) (↑k : Int)) ∧ 0 < 1) && etaOk (Sh.int IntKind.i64) (List.getD (elemAt (iv (Prod.fst (Prod.snd c))) (↑k : Int)) 0 AVal.undef)) (L (St.mk 102 [(0, AVal.slice (ckv l) 4 Tag.ro), (3, AVal.int IntKind.i64 (AVal.intOf (List.getD (elemAt (iv (Prod.fst (Prod.snd c))) (↑k : Int)) 0 AVal.undef))), (4, AVal.int IntKind.i64 (↑i : Int)), (5, AVal.ptr (Oid.loc 5) 0), (8, AVal.int IntKind.i64 (IntKind.wrap IntKind.i64 ((↑k : Int) + (1 : Int))))] [] [(5, AObj.cells [AVal.int IntKind.i64 (Prod.fst c), AVal.slice (iv (Prod.fst (Prod.snd c))) 1 Tag.ro, AVal.int IntKind.i64 (Prod.fst (Prod.snd (Prod.snd c))), AVal.bool (Prod.snd (Prod.snd (Prod.snd c)))])] Sto.empty))))))) (K (Exit.exit 4) (St.mk 102 [(0, AVal.slice (ckv l) 4 Tag.ro), (3, AVal.int IntKind.i64 la), (4, AVal.int IntKind.i64 (↑i : Int)), (5, AVal.ptr (Oid.loc 5) 0), (8, AVal.int IntKind.i64 (↑k : Int)), (87, AVal.bool (hold (decide ((↑k : Int) < (↑(List.length (iv (Prod.fst (Prod.snd c)))) : Int)))))] [] [(5, AObj.cells [AVal.int IntKind.i64 (Prod.fst c), AVal.slice (iv (Prod.fst (Prod.snd c))) 1 Tag.ro, AVal.int IntKind.i64 (Prod.fst (Prod.snd (Prod.snd c))), AVal.bool (Prod.snd (Prod.snd (Prod.snd c)))])] Sto.empty))) := by kernel_rfl
noncomputable def rightRF_S  : St := St.mk 102 [] [] [] (Sto.empty)
noncomputable abbrev rightRF_C : Code := code_20_1_1_1
theorem rightRF_r  (Q : AVal → Sto → Prop) : vc Try.prog cRightR code_20_1_1_1 (endK Try.prog Try.f20.results.toList Q) (St.mk 102 [] [] [] (Sto.empty)) =
  (Q (AVal.bool true) Sto.empty) := by kernel_rfl
noncomputable def rightRE_S (l : List Ck) (la : Int) (i : Nat) (c : Ck) (nx : Int) : St := St.mk 102 [(0, .slice (ckv l) 4 .ro), (3, .int .i64 la), (4, .int .i64 (i : Int)), (5, .ptr (.loc 5) 0), (6, .int .i64 nx)] [] [(5, .cells (ckC c))] (Sto.empty)
noncomputable abbrev rightRE_C : Code := code_20_1_1_0_1_0_0_1_0_0_1_1
theorem rightRE_r (l : List Ck) (la : Int) (i : Nat) (c : Ck) (nx : Int) (K : Exit → St → Prop) : vc Try.prog cRightR code_20_1_1_0_1_0_0_1_0_0_1_1 K (St.mk 102 [(0, .slice (ckv l) 4 .ro), (3, .int .i64 la), (4, .int .i64 (i : Int)), (5, .ptr (.loc 5) 0), (6, .int .i64 nx)] [] [(5, .cells (ckC c))] (Sto.empty)) =
  (cutV (vc Try.prog cRightR code_20_1_1_0_1_0_0_1_0_0_1_1_0_1 (thenK (fun s => cutV (vc Try.prog cRightR code_20_1_1_0_1_0_0_1_0_0_1_1_1 K) (St.norm [] [0, 3, 4, 5, 6] [5] s)) K)) (St.mk 102 [(0, AVal.slice (ckv l) 4 Tag.ro), (3, AVal.int IntKind.i64 la), (4, AVal.int IntKind.i64 (↑i : Int)), (5, AVal.ptr (Oid.loc 5) 0), (6, AVal.int IntKind.i64 nx), (23, AVal.bool (hold (decide (IntKind.wrap IntKind.i64 ((↑i : Int) + (1 : Int)) < (↑(List.length (ckv l)) : Int)))))] [] [(5, AObj.cells [AVal.int IntKind.i64 (Prod.fst c), AVal.slice (iv (Prod.fst (Prod.snd c))) 1 Tag.ro, AVal.int IntKind.i64 (Prod.fst (Prod.snd (Prod.snd c))), AVal.bool (Prod.snd (Prod.snd (Prod.snd c)))])] Sto.empty)) := by kernel_rfl
noncomputable def rightRG_S (l : List Ck) (la : Int) (i : Nat) (c : Ck) (nx : Int) (b : Bool) : St := St.mk 102 [(0, .slice (ckv l) 4 .ro), (3, .int .i64 la), (4, .int .i64 (i : Int)), (5, .ptr (.loc 5) 0), (6, .int .i64 nx), (23, .bool b)] [] [(5, .cells (ckC c))] (Sto.empty)
noncomputable abbrev rightRG_C : Code := code_20_1_1_0_1_0_0_1_0_0_1_1_0_1
theorem rightRG_r (l : List Ck) (la : Int) (i : Nat) (c : Ck) (nx : Int) (b : Bool) (K : Exit → St → Prop) : vc Try.prog cRightR code_20_1_1_0_1_0_0_1_0_0_1_1_0_1 K (St.mk 102 [(0, .slice (ckv l) 4 .ro), (3, .int .i64 la), (4, .int .i64 (i : Int)), (5, .ptr (.loc 5) 0), (6, .int .i64 nx), (23, .bool b)] [] [(5, .cells (ckC c))] (Sto.empty)) =
  (brV b true (∀ (m : Int), m = IntKind.wrap IntKind.i64 ((↑i : Int) + (1 : Int)) → gb (decide ((0 : Int) ≤ m ∧ m < (↑(List.length (ckv l)) : Int))) (gb (decide (1 ≤ List.length (List.drop 0 (elemAt (ckv l) m)) ∧ 0 < 1) && etaOk (Sh.int IntKind.i64) (List.getD (List.drop 0 (elemAt (ckv l) m)) 0 AVal.undef)) (cutV (vc Try.prog cRightR code_20_1_1_0_1_0_0_1_0_0_1_1_0_1_0_1 K) (St.mk 102 [(0, AVal.slice (ckv l) 4 Tag.ro), (3, AVal.int IntKind.i64 la), (4, AVal.int IntKind.i64 (↑i : Int)), (5, AVal.ptr (Oid.loc 5) 0), (6, AVal.int IntKind.i64 (AVal.intOf (List.getD (List.drop 0 (elemAt (ckv l) m)) 0 AVal.undef)))] [] [(5, AObj.cells [AVal.int IntKind.i64 (Prod.fst c), AVal.slice (iv (Prod.fst (Prod.snd c))) 1 Tag.ro, AVal.int IntKind.i64 (Prod.fst (Prod.snd (Prod.snd c))), AVal.bool (Prod.snd (Prod.snd (Prod.snd c)))])] Sto.empty)))) (K Exit.normal (St.mk 102 [(0, AVal.slice (ckv l) 4 Tag.ro), (3, AVal.int IntKind.i64 la), (4, AVal.int IntKind.i64 (↑i : Int)), (5, AVal.ptr (Oid.loc 5) 0), (6, AVal.int IntKind.i64 nx), (23, AVal.bool b)] [] [(5, AObj.cells [AVal.int IntKind.i64 (Prod.fst c), AVal.slice (iv (Prod.fst (Prod.snd c))) 1 Tag.ro, AVal.int IntKind.i64 (Prod.fst (Prod.snd (Prod.snd c))), AVal.bool (Prod.snd (Prod.snd (Prod.snd c)))])] Sto.empty))) := by kernel_rfl
end Go.Proofs.Ytjdjecaclbdhhaa
end

section
namespace Go.Proofs.Ytjdjecaclbdhhaa
open Go.AL
set_option linter.unusedSimpArgs false
set_option linter.unusedVariables false
set_option maxHeartbeats 2000000
set_option maxRecDepth 20000

noncomputable def krR (l : List Ck) (L : St → Prop) : Exit → St → Prop :=
  blockK 1 (thenK (fun s => cutV (vc Try.prog cRightR rightRI_C (thenK (fun s => L (St.norm [] [0, 3, 4] [] s)) (blockK 0 (thenK (fun s => cutV (vc Try.prog cRightR rightRF_C (endK Try.prog Try.f20.results.toList fun v x => Wk v (.bool (rightC l)))) (St.norm [] [] [] s)) (endK Try.prog Try.f20.results.toList fun v x => Wk v (.bool (rightC l))))))) (St.norm [] [0, 3, 4] [] s)) (thenK (fun s => L (St.norm [] [0, 3, 4] [] s)) (blockK 0 (thenK (fun s => cutV (vc Try.prog cRightR rightRF_C (endK Try.prog Try.f20.results.toList fun v x => Wk v (.bool (rightC l)))) (St.norm [] [] [] s)) (endK Try.prog Try.f20.results.toList fun v x => Wk v (.bool (rightC l)))))))
theorem rightR_c (l : List Ck) (hl : l.length ≤ 1000000) (hc : ∀ c ∈ l, c.2.1.length ≤ 1000000) : ACall Try.prog 20 [.slice (ckv l) 4 .ro] Sto.empty fun v _ => Wk v (.bool (rightC l)) := by
  refine rightR_i l _ (.of_none rfl) ?_
  have hn : (ckv l).length = l.length := ckv_length l
  have no : ∀ {i : Nat}, i < l.length → okC l i = false → Wk (.bool false) (.bool (rightC l)) := fun hi h => by rw [right_no hi h]; exact Wk.refl _
  refine loopV_intro (α := Nat × Int) (fun x => rightRL_S l x.2 x.1) (fun x => x.1 ≤ l.length ∧ (∀ j, j < x.1 → okC l j = true) ∧ x.2 = lastI (idsC (l.take x.1)) ∧ ∀ h : x.1 < l.length, l[x.1].1 = 0 → x.1 = 0) (fun x => l.length - x.1) ?_ (0, -1) ⟨Nat.zero_le _, fun j h => by simp at h, rfl, fun _ _ => rfl⟩
  rintro ⟨i, la⟩ ⟨hi, hpre, hla, hz⟩ L hL
  have hi : i ≤ l.length := hi
  have hpre : ∀ j, j < i → okC l j = true := hpre
  have hla : la = lastI (idsC (l.take i)) := hla
  have hz : ∀ h : i < l.length, l[i].1 = 0 → i = 0 := hz
  refine Eq.mpr (rightRL_r l la i L _) ?_
  simp only [hold_eq]
  refine brV_by (fun h => ?_) (fun h => ?_)
  case refine_2 =>
    have hi' : i = l.length := by have := of_decide_eq_false h; omega
    subst hi'
    refine leaveTo (toCut (Eq.mpr (rightRF_r _) ?_))
    have : rightC l = true := by simp only [rightC, decide_eq_true_eq]; exact hpre
    rw [this]; exact Wk.refl _
  have hlt : i < l.length := by have := of_decide_eq_true h; omega
  have hz := hz hlt
  have hg : l.getD i ck0 = l[i] := by simp [List.getD_eq_getElem?_getD, hlt]
  have bad : ¬ (l[i].2.2.2 = false ∧ l[i].2.2.1 = nextC l i ∧ 0 ≤ l[i].1 ∧ l[i].1 ∉ nosC (l.take i) ∧ (l[i].1 = 0 ↔ i = 0) ∧ l[i].2.1.length ≤ 4 ∧ (0 < i → l[i].2.1 ≠ []) ∧ riseF (lastI (idsC (l.take i))) l[i].2.1 = true) → okC l i = false := fun h => by
    unfold okC; rw [hg]; exact decide_eq_false h
  have good : (l[i].2.2.2 = false ∧ l[i].2.2.1 = nextC l i ∧ 0 ≤ l[i].1 ∧ l[i].1 ∉ nosC (l.take i) ∧ (l[i].1 = 0 ↔ i = 0) ∧ l[i].2.1.length ≤ 4 ∧ (0 < i → l[i].2.1 ≠ []) ∧ riseF (lastI (idsC (l.take i))) l[i].2.1 = true) → okC l i = true := fun h => by
    unfold okC; rw [hg]; exact decide_eq_true h
  have hcl := hc _ (List.getElem_mem hlt)
  have hiv : (iv l[i].2.1).length = l[i].2.1.length := iv_length _
  -- behind the ahead's checks
  have leaf : (∀ h : i + 1 < l.length, l[i + 1].1 ≠ 0) → l[i].2.2.2 = false → l[i].2.2.1 = nextC l i → 0 ≤ l[i].1 → (l[i].1 = 0 ↔ i = 0) → l[i].2.1.length ≤ 4 → (0 < i → l[i].2.1 ≠ []) → vc Try.prog cRightR rightRC_C (krR l L) (rightRC_S l la i l[i]) := by
    intro hnz h1 h2 h3 h5 h6 h7
    refine Eq.mpr (rightRC_r l la i l[i] _) ?_
    refine loopV_intro (α := Nat) (fun k => rightRM_S l la i l[i] k) (fun k => k ≤ i ∧ l[i].1 ∉ nosC (l.take k)) (fun k => i - k) ?_ 0 ⟨Nat.zero_le _, by simp [nosC]⟩
    rintro k ⟨hk, hnk⟩ M hM
    refine Eq.mpr (rightRM_r l la i l[i] k M _) ?_
    simp only [hold_eq]
    refine brV_by (fun h => ?_) (fun h => ?_)
    · have hki : k < i := by have := of_decide_eq_true h; omega
      have hkl : k < l.length := by omega
      rw [elemAt_ckv l k hkl]
      refine gb_by (dt (by omega)) (gb_by rfl (brV_by (fun h => ?_) (fun h => ?_)))
      · have e : l[k].1 = l[i].1 := by
          have h : (l[k].1 == l[i].1) = true := h
          simpa using h
        refine no hlt (bad fun hh => hh.2.2.2.1 ?_)
        exact List.mem_map.2 ⟨l[k], List.mem_take_iff_getElem.2 ⟨k, by omega, rfl⟩, e⟩
      · have e : l[k].1 ≠ l[i].1 := by
          have h : (l[k].1 == l[i].1) = false := h
          simpa using h
        rw [i64_succ hkl (by omega)]
        refine hM (k + 1) ⟨hki, ?_⟩ (by omega)
        rw [nosC_take1 l k hkl, List.mem_append, List.mem_singleton]
        rintro (h | h)
        · exact hnk h
        · exact e h.symm
    · have hki : k = i := by have := of_decide_eq_false h; omega
      subst hki
      refine leaveTo (toCut (Eq.mpr (rightRD_r l la k l[k] _) ?_))
      refine loopV_intro (α := Nat × Int) (fun x => rightRN_S l x.2 k l[k] x.1) (fun x => x.1 ≤ l[k].2.1.length ∧ x.2 = (l[k].2.1.take x.1).getLastD la ∧ riseF la (l[k].2.1.take x.1) = true) (fun x => l[k].2.1.length - x.1) ?_ (0, la) ⟨Nat.zero_le _, rfl, rfl⟩
      rintro ⟨j, lb⟩ ⟨hj, hlb, hrj⟩ L2 hL2
      have hj : j ≤ l[k].2.1.length := hj
      have hlb : lb = (l[k].2.1.take j).getLastD la := hlb
      have hrj : riseF la (l[k].2.1.take j) = true := hrj
      refine Eq.mpr (rightRN_r l lb k l[k] j L2 _) ?_
      simp only [hold_eq]
      refine brV_by (fun hq => ?_) (fun hq => ?_)
      · have hjl : j < l[k].2.1.length := by have := of_decide_eq_true hq; omega
        have hst := riseF_take la l[k].2.1 j hjl
        rw [hrj, Bool.true_and, ← hlb] at hst
        rw [elemAt_iv _ j hjl]
        refine gb_by (dt (by omega)) (gb_by rfl (brV_by (fun hle => ?_) (fun hle => ?_)))
        · have hle : l[k].2.1[j] ≤ lb := of_decide_eq_true hle
          refine no hlt (bad fun hh => ?_)
          have hf := hh.2.2.2.2.2.2.2
          rw [← hla] at hf
          have h8 := (riseF_iff la _).1 hf
          have h9 : riseF la (l[k].2.1.take (j + 1)) = true := (riseF_iff la _).2 ⟨fun x hx => h8.1 x (List.mem_of_mem_take hx), h8.2.sublist (List.take_sublist _ _)⟩
          rw [hst] at h9
          have := of_decide_eq_true h9
          omega
        · have hle : ¬ l[k].2.1[j] ≤ lb := of_decide_eq_false hle
          rw [i64_succ hjl (by omega)]
          refine gb_by (dt (by omega)) (gb_by rfl ?_)
          refine hL2 (j + 1, l[k].2.1[j]) ⟨hjl, (last_take la _ j hjl).symm, ?_⟩ (by show l[k].2.1.length - (j + 1) < l[k].2.1.length - j; omega)
          show riseF la (l[k].2.1.take (j + 1)) = true
          rw [hst]; exact dt (by omega)
      · have hj' : j = l[k].2.1.length := by have := of_decide_eq_false hq; omega
        subst hj'
        rw [List.take_length] at hlb hrj
        refine leaveK (inBlock (toCut (Eq.mpr (rightRI_r l lb k _) ?_)))
        rw [i64_succ hlt (by omega)]
        refine hL (k + 1, lb) ⟨hlt, fun j hj => ?_, ?_, fun h h0 => (hnz h h0).elim⟩ (by show l.length - (k + 1) < l.length - k; omega)
        · have hj : j < k + 1 := hj
          rcases Nat.lt_or_ge j k with h9 | h9
          · exact hpre j h9
          · obtain rfl : j = k := by omega
            exact good ⟨h1, h2, h3, hnk, h5, h6, h7, by rw [← hla]; exact hrj⟩
        · show lb = lastI (idsC (l.take (k + 1)))
          rw [idsC_take1 l k hlt, lastI_app, hlb, hla]
  have key : (∀ h : i + 1 < l.length, l[i + 1].1 ≠ 0) → vc Try.prog cRightR rightRB_C (krR l L) (rightRB_S l la i l[i] (nextC l i)) := by
    intro hnz
    refine Eq.mpr (rightRB_r l la i l[i] (nextC l i) _) ?_
    simp only [hold_eq]
    refine brV_by (fun h1 => ?_) (fun h1 => ?_)
    · have h1 : i = 0 := by
        have h1 : ((i : Int) == 0) = true := h1
        have : (i : Int) = 0 := by simpa using h1
        omega
      refine brV_by' (fun h2 => ?_) (fun h2 => no hlt (bad fun hh => by
        have h2 : (l[i].1 != 0) = true := h2
        rw [hh.2.2.2.2.1.2 h1] at h2; simp at h2))
      have h2 : l[i].1 = 0 := by
        have h2 : (l[i].1 != 0) = false := h2
        simpa using h2
      refine brV_by (fun h3 => by have := of_decide_eq_true h3; omega) (fun h3 => ?_)
      refine brV_by' (fun h4 => ?_) (fun h4 => no hlt (bad fun hh => by have := of_decide_eq_true h4; have := hh.2.2.1; omega))
      refine brV_by' (fun h5 => ?_) (fun h5 => no hlt (bad fun hh => by rw [hh.1] at h5; cases h5))
      refine brV_by' (fun h6 => ?_) (fun h6 => no hlt (bad fun hh => by
        have h6 : (l[i].2.2.1 != nextC l i) = true := h6
        rw [hh.2.1] at h6; simp at h6))
      have h6 : l[i].2.2.1 = nextC l i := by
        have h6 : (l[i].2.2.1 != nextC l i) = false := h6
        simpa using h6
      refine brV_by (fun h7 => no hlt (bad fun hh => by have := of_decide_eq_true h7; have := hh.2.2.2.2.2.1; omega)) (fun h7 => toCut (leaf hnz h5 h6 (by have := of_decide_eq_false h4; omega) ⟨fun _ => h1, fun _ => h2⟩ (by have := of_decide_eq_false h7; omega) (fun h => by omega)))
    · have h1 : i ≠ 0 := by
        have h1 : ((i : Int) == 0) = false := h1
        have : ¬ (i : Int) = 0 := by simpa using h1
        omega
      refine brV_by (fun h3 => ?_) (fun h3 => by have := of_decide_eq_false h3; omega)
      refine brV_by' (fun h2 => ?_) (fun h2 => no hlt (bad fun hh => by
        have h2 : (((iv l[i].2.1).length : Int) == 0) = true := h2
        have h2 : ((iv l[i].2.1).length : Int) = 0 := by simpa using h2
        exact hh.2.2.2.2.2.2.1 (by omega) (List.eq_nil_of_length_eq_zero (by omega))))
      have h2 : l[i].2.1 ≠ [] := fun e => by
        have h2 : (((iv l[i].2.1).length : Int) == 0) = false := h2
        rw [e] at h2; simp [iv] at h2
      refine brV_by' (fun h4 => ?_) (fun h4 => no hlt (bad fun hh => by have := of_decide_eq_true h4; have := hh.2.2.1; omega))
      refine brV_by' (fun h5 => ?_) (fun h5 => no hlt (bad fun hh => by rw [hh.1] at h5; cases h5))
      refine brV_by' (fun h6 => ?_) (fun h6 => no hlt (bad fun hh => by
        have h6 : (l[i].2.2.1 != nextC l i) = true := h6
        rw [hh.2.1] at h6; simp at h6))
      have h6 : l[i].2.2.1 = nextC l i := by
        have h6 : (l[i].2.2.1 != nextC l i) = false := h6
        simpa using h6
      refine brV_by (fun h7 => no hlt (bad fun hh => by have := of_decide_eq_true h7; have := hh.2.2.2.2.2.1; omega)) (fun h7 => toCut (leaf hnz h5 h6 (by have := of_decide_eq_false h4; omega) ⟨fun h => (h1 (hz h)).elim, fun h => (h1 h).elim⟩ (by have := of_decide_eq_false h7; omega) (fun h => h2)))
  rw [elemAt_ckv l i hlt]
  refine gb_by (dt (by omega)) (gb_by rfl (toCut ?_))
  refine Eq.mpr (rightRE_r l la i l[i] 0 _) (toCut ?_)
  rw [i64_succ hlt (by omega)]
  refine Eq.mpr (rightRG_r l la i l[i] 0 _ _) ?_
  simp only [hold_eq]
  refine brV_by (fun hb => ?_) (fun hb => ?_)
  · intro m hm
    have hi1 : i + 1 < l.length := by have hb := of_decide_eq_true hb; omega
    rw [i64_succ hlt (by omega)] at hm
    subst hm
    rw [elemAt_ckv l (i + 1) hi1]
    have e : nextC l i = l[i + 1].1 := by
      unfold nextC
      rw [List.getD_eq_getElem?_getD, List.getElem?_eq_getElem hi1]; rfl
    refine gb_by (dt (by omega)) (gb_by rfl (toCut ?_))
    refine Eq.mpr (rightRA_r l la i l[i] l[i + 1].1 _) ?_
    simp only [hold_eq]
    refine brV_by (fun h0 => ?_) (fun h0 => ?_)
    · have h0 : l[i + 1].1 = 0 := by
        have h0 : (l[i + 1].1 == 0) = true := h0
        simpa using h0
      refine no hi1 ?_
      have hg1 : l.getD (i + 1) ck0 = l[i + 1] := by simp [List.getD_eq_getElem?_getD, hi1]
      unfold okC
      rw [hg1]
      exact decide_eq_false fun hh => by have := hh.2.2.2.2.1.1 h0; omega
    · have h0 : l[i + 1].1 ≠ 0 := by
        have h0 : (l[i + 1].1 == 0) = false := h0
        simpa using h0
      rw [e] at key
      refine thenN (toCut ?_)
      exact key fun _ => h0
  · have hi1 : ¬ i + 1 < l.length := by have hb := of_decide_eq_false hb; omega
    have e : nextC l i = 0 := by
      unfold nextC
      rw [List.getD_eq_getElem?_getD, List.getElem?_eq_none (by omega)]; rfl
    rw [e] at key
    refine thenN (toCut ?_)
    exact key fun h => (hi1 h).elim
theorem rightR_ok : EntOk Try.prog rightRE := by
  intro xs σ; simp only [rightRE]; split
  · rename_i es s t
    intro hc
    simp only [Bool.and_eq_true] at hc
    obtain ⟨h1, h2, h3, h4⟩ := hc
    exact pcall_of (.cons (wk_cks t h1 h2) (.refl _)) (by rw [hold_eq]; exact rightR_c _ (by simpa using lenM_of h3) (ckM_of h4)) (by simp only [noOutL, AVal.noOut, ckv_noOut, Bool.and_true]) (by simp only [noTokL, AVal.noTok, ckv_noTok, Bool.and_true, Tag.below]) rfl rfl
  · trivial
end Go.Proofs.Ytjdjecaclbdhhaa
end

section
set_option maxRecDepth 100000
set_option maxHeartbeats 0
set_option linter.unusedVariables false
namespace Go.Proofs.Ytjdjecaclbdhhaa
open Go.AL Go.Proofs
noncomputable def cInsertR : Cfg := { keep := [0, 1, 4, 5, 6, 7, 8, 9, 10, 13, 19, 23, 26, 34, 45, 57, 67], cut := [(23, [0, 1, 6, 7], []), (41, [0, 8, 9, 10], [8]), (24, [0, 1, 6, 7], []), (30, [0, 1, 6], []), (44, [8, 9, 10], [8])], orc := ofList [rightRE, idsRE, hasE, putE, usedE] }
noncomputable def code_17_ : Code := (Try.f17.body).getD .skip
noncomputable def code_17_1_1_1_1_1_1_1 : Code := codeAt code_17_ [1, 1, 1, 1, 1, 1, 1]
noncomputable def code_17_1_1_1_1_1_1_0_1_0_0 : Code := codeAt code_17_ [1, 1, 1, 1, 1, 1, 0, 1, 0, 0]
noncomputable def code_17_1_1_1_1_1_1_0_1_0_0_1_1 : Code := codeAt code_17_ [1, 1, 1, 1, 1, 1, 0, 1, 0, 0, 1, 1]
noncomputable def code_17_1_1_1_1_1_1_1_1_1_1_1_1 : Code := codeAt code_17_ [1, 1, 1, 1, 1, 1, 1, 1, 1, 1, 1, 1]
noncomputable def code_17_1_1_1_1_1_1_1_1_1_1_1_0_0_0 : Code := codeAt code_17_ [1, 1, 1, 1, 1, 1, 1, 1, 1, 1, 1, 0, 0, 0]
theorem insertR_r (l : List Ck) (x : Int) (Q : AVal → Sto → Prop) : vc Try.prog cInsertR code_17_ (endK Try.prog Try.f17.results.toList Q) (St.start Try.f17.ntmps [.slice (ckv l) 4 .ro, .int .i64 x] (Sto.empty)) =
  (gb (List.all (ckv l) ckIs && (lenM (List.length (ckv l)) && List.all (ckv l) ckM)) (brV (!hold (rightC (List.map ckOf (ckv l)))) true (Q (AVal.tuple [AVal.slice [] 0 Tag.nil, AVal.int IntKind.i64 (100 : Int)]) Sto.empty) (brV (hold (decide (x < (0 : Int)))) false (brV (hold (decide ((1099511627776 : Int) ≤ x))) true (Q (AVal.tuple [AVal.slice [] 0 Tag.nil, AVal.int IntKind.i64 (2 : Int)]) Sto.empty) (∀ (y : List Int), y = idsC (List.map ckOf (ckv l)) → gb (List.all (ckv l) ckIs && (lenM (List.length (ckv l)) && List.all (ckv l) ckM)) (gb (List.all (iv y) isI64 && lenOk (List.length (iv y))) (brV (hold (List.contains (List.map AVal.intOf (iv y)) x)) true (Q (AVal.tuple [AVal.slice [] 0 Tag.nil, AVal.int IntKind.i64 (31 : Int)]) Sto.empty) (brV (hold ((↑(List.length (ckv l)) : Int) == (0 : Int))) true (Q (AVal.tuple [AVal.slice [AVal.agg [AVal.int IntKind.i64 (0 : Int), AVal.slice [AVal.int IntKind.i64 x] 1 Tag.full, AVal.int IntKind.i64 (0 : Int), AVal.bool false]] 4 Tag.full, AVal.int IntKind.i64 (0 : Int)]) Sto.empty) (loopV (fun s => St.norm [] [0, 1, 6, 7] [] s) (vc Try.prog cInsertR code_17_1_1_1_1_1_1_0_1_0_0) (blockK 0 (thenK (fun s => cutV (vc Try.prog cInsertR code_17_1_1_1_1_1_1_1 (endK Try.prog (Array.toList (Go.Func.results Try.f17)) Q)) (St.norm [] [0, 1, 6] [] s)) (endK Try.prog (Array.toList (Go.Func.results Try.f17)) Q))) (St.mk 83 [(0, AVal.slice (ckv l) 4 Tag.ro), (1, AVal.int IntKind.i64 x), (6, AVal.int IntKind.i64 (0 : Int)), (7, AVal.int IntKind.i64 (1 : Int))] [] [] Sto.empty))))))) (Q (AVal.tuple [AVal.slice [] 0 Tag.nil, AVal.int IntKind.i64 (2 : Int)]) Sto.empty)))) := by kernel_rfl
theorem insertR_i (l : List Ck) (x : Int) (Q : AVal → Sto → Prop) (ho : OrcOk Try.prog cInsertR) (h : gb (List.all (ckv l) ckIs && (lenM (List.length (ckv l)) && List.all (ckv l) ckM)) (brV (!hold (rightC (List.map ckOf (ckv l)))) true (Q (AVal.tuple [AVal.slice [] 0 Tag.nil, AVal.int IntKind.i64 (100 : Int)]) Sto.empty) (brV (hold (decide (x < (0 : Int)))) false (brV (hold (decide ((1099511627776 : Int) ≤ x))) true (Q (AVal.tuple [AVal.slice [] 0 Tag.nil, AVal.int IntKind.i64 (2 : Int)]) Sto.empty) (∀ (y : List Int), y = idsC (List.map ckOf (ckv l)) → gb (List.all (ckv l) ckIs && (lenM (List.length (ckv l)) && List.all (ckv l) ckM)) (gb (List.all (iv y) isI64 && lenOk (List.length (iv y))) (brV (hold (List.contains (List.map AVal.intOf (iv y)) x)) true (Q (AVal.tuple [AVal.slice [] 0 Tag.nil, AVal.int IntKind.i64 (31 : Int)]) Sto.empty) (brV (hold ((↑(List.length (ckv l)) : Int) == (0 : Int))) true (Q (AVal.tuple [AVal.slice [AVal.agg [AVal.int IntKind.i64 (0 : Int), AVal.slice [AVal.int IntKind.i64 x] 1 Tag.full, AVal.int IntKind.i64 (0 : Int), AVal.bool false]] 4 Tag.full, AVal.int IntKind.i64 (0 : Int)]) Sto.empty) (loopV (fun s => St.norm [] [0, 1, 6, 7] [] s) (vc Try.prog cInsertR code_17_1_1_1_1_1_1_0_1_0_0) (blockK 0 (thenK (fun s => cutV (vc Try.prog cInsertR code_17_1_1_1_1_1_1_1 (endK Try.prog (Array.toList (Go.Func.results Try.f17)) Q)) (St.norm [] [0, 1, 6] [] s)) (endK Try.prog (Array.toList (Go.Func.results Try.f17)) Q))) (St.mk 83 [(0, AVal.slice (ckv l) 4 Tag.ro), (1, AVal.int IntKind.i64 x), (6, AVal.int IntKind.i64 (0 : Int)), (7, AVal.int IntKind.i64 (1 : Int))] [] [] Sto.empty))))))) (Q (AVal.tuple [AVal.slice [] 0 Tag.nil, AVal.int IntKind.i64 (2 : Int)]) Sto.empty)))) : ACall Try.prog 17 [.slice (ckv l) 4 .ro, .int .i64 x] (Sto.empty) Q :=
  ACall.intro hmix Try.func17 (c := code_17_) (by kernel_rfl) cInsertR ho (Nat.le_of_ble_eq_true (by kernel_rfl)) (by rw [insertR_r]; exact h)
noncomputable def insertRL_S (l : List Ck) (x : Int) (a i : Nat) : St := St.mk 83 [(0, .slice (ckv l) 4 .ro), (1, .int .i64 x), (6, .int .i64 (a : Int)), (7, .int .i64 (i : Int))] [] [] (Sto.empty)
noncomputable abbrev insertRL_C : Code := code_17_1_1_1_1_1_1_0_1_0_0
theorem insertRL_r (l : List Ck) (x : Int) (a i : Nat) (L : St → Prop) (K : Exit → St → Prop) : vc Try.prog cInsertR code_17_1_1_1_1_1_1_0_1_0_0 (thenK (fun s => L (St.norm [] [0, 1, 6, 7] [] s)) K) (St.mk 83 [(0, .slice (ckv l) 4 .ro), (1, .int .i64 x), (6, .int .i64 (a : Int)), (7, .int .i64 (i : Int))] [] [] (Sto.empty)) =
  (brV (hold (decide ((↑i : Int) < (↑(List.length (ckv l)) : Int)))) true (gb (decide ((0 : Int) ≤ (↑i : Int) ∧ (↑i : Int) < (↑(List.length (ckv l)) : Int))) (gb (decide (1 ≤ List.length (List.drop 1 (elemAt (ckv l) (↑i : Int))) ∧ 0 < 1) && sliceOk 1 (List.getD (List.drop 1 (elemAt (ckv l) (↑i : Int))) 0 AVal.undef)) (gb (decide ((0 : Int) ≤ (0 : Int) ∧ (0 : Int) < (↑(List.length (AVal.elems (List.getD (List.drop 1 (elemAt (ckv l) (↑i : Int))) 0 AVal.undef))) : Int))) (gb (decide (1 ≤ List.length (elemAt (AVal.elems (List.getD (List.drop 1 (elemAt (ckv l) (↑i : Int))) 0 AVal.undef)) (0 : Int)) ∧ 0 < 1) && etaOk (Sh.int IntKind.i64) (List.getD (elemAt (AVal.elems (List.getD (List.drop 1 (elemAt (ckv l) (↑i : Int))) 0 AVal.undef)) (0 : Int)) 0 AVal.undef)) (brV (hold (decide (AVal.intOf (List.getD (elemAt (AVal.elems (List.getD (List.drop 1 (elemAt (ckv l) (↑i : Int))) 0 AVal.undef)) (0 : Int)) 0 AVal.undef) < x))) true (cutV (vc Try.prog cInsertR code_17_1_1_1_1_1_1_0_1_0_0_1_1 (thenK (fun s => L (St.norm [] [0, 1, 6, 7] [] s)) K)) (St.mk 83 [(0, AVal.slice (ckv l) 4 Tag.ro), (1, AVal.int IntKind.i64 x), (6, AVal.int IntKind.i64 (↑i : Int)), (7, AVal.int IntKind.i64 (↑i : Int))] [] [] Sto.empty)) (cutV (vc Try.prog cInsertR code_17_1_1_1_1_1_1_0_1_0_0_1_1 (thenK (fun s => L (St.norm [] [0, 1, 6, 7] [] s)) K)) (St.mk 83 [(0, AVal.slice (ckv l) 4 Tag.ro), (1, AVal.int IntKind.i64 x), (6, AVal.int IntKind.i64 (↑a : Int)), (7, AVal.int IntKind.i64 (↑i : Int))] [] [] Sto.empty))))))) (K (Exit.exit 0) (St.mk 83 [(0, AVal.slice (ckv l) 4 Tag.ro), (1, AVal.int IntKind.i64 x), (6, AVal.int IntKind.i64 (↑a : Int)), (7, AVal.int IntKind.i64 (↑i : Int)), (34, AVal.bool (hold (decide ((↑i : Int) < (↑(List.length (ckv l)) : Int)))))] [] [] Sto.empty))) := by kernel_rfl
noncomputable def insertRI_S (l : List Ck) (x : Int) (a i : Nat) : St := St.mk 83 [(0, .slice (ckv l) 4 .ro), (1, .int .i64 x), (6, .int .i64 (a : Int)), (7, .int .i64 (i : Int))] [] [] (Sto.empty)
noncomputable abbrev insertRI_C : Code := code_17_1_1_1_1_1_1_0_1_0_0_1_1
theorem insertRI_r (l : List Ck) (x : Int) (a i : Nat) (K : Exit → St → Prop) : vc Try.prog cInsertR code_17_1_1_1_1_1_1_0_1_0_0_1_1 K (St.mk 83 [(0, .slice (ckv l) 4 .ro), (1, .int .i64 x), (6, .int .i64 (a : Int)), (7, .int .i64 (i : Int))] [] [] (Sto.empty)) =
  (K Exit.normal (St.mk 83 [(0, AVal.slice (ckv l) 4 Tag.ro), (1, AVal.int IntKind.i64 x), (6, AVal.int IntKind.i64 (↑a : Int)), (7, AVal.int IntKind.i64 (IntKind.wrap IntKind.i64 ((↑i : Int) + (1 : Int))))] [] [] Sto.empty)) := by kernel_rfl
noncomputable def insertRA_S (l : List Ck) (x : Int) (a : Nat) : St := St.mk 83 [(0, .slice (ckv l) 4 .ro), (1, .int .i64 x), (6, .int .i64 (a : Int))] [] [] (Sto.empty)
noncomputable abbrev insertRA_C : Code := code_17_1_1_1_1_1_1_1
theorem insertRA_r (l : List Ck) (x : Int) (a : Nat) (Q : AVal → Sto → Prop) : vc Try.prog cInsertR code_17_1_1_1_1_1_1_1 (endK Try.prog Try.f17.results.toList Q) (St.mk 83 [(0, .slice (ckv l) 4 .ro), (1, .int .i64 x), (6, .int .i64 (a : Int))] [] [] (Sto.empty)) =
  (gb (decide ((0 : Int) ≤ (↑a : Int) ∧ (↑a : Int) < (↑(List.length (ckv l)) : Int))) (gb (decide (4 ≤ List.length (elemAt (ckv l) (↑a : Int)) ∧ 0 < 4) && (etaOk (Sh.int IntKind.i64) (List.getD (elemAt (ckv l) (↑a : Int)) 0 AVal.undef) && (sliceOk 1 (List.getD (elemAt (ckv l) (↑a : Int)) 1 AVal.undef) && (etaOk (Sh.int IntKind.i64) (List.getD (elemAt (ckv l) (↑a : Int)) 2 AVal.undef) && (etaOk Sh.bool (List.getD (elemAt (ckv l) (↑a : Int)) 3 AVal.undef) && true))))) (∀ (y : List Int), y = putR (List.map AVal.intOf (AVal.elems (List.getD (elemAt (ckv l) (↑a : Int)) 1 AVal.undef))) x → gb (List.all (AVal.elems (List.getD (elemAt (ckv l) (↑a : Int)) 1 AVal.undef)) isI64 && lenM (List.length (AVal.elems (List.getD (elemAt (ckv l) (↑a : Int)) 1 AVal.undef)))) (brV (hold (decide ((↑(List.length (iv y)) : Int) ≤ (4 : Int)))) true (Q (AVal.tuple [AVal.slice [AVal.agg [AVal.int IntKind.i64 (AVal.intOf (List.getD (elemAt (ckv l) (↑a : Int)) 0 AVal.undef)), AVal.slice (iv y) 1 Tag.ro, AVal.int IntKind.i64 (AVal.intOf (List.getD (elemAt (ckv l) (↑a : Int)) 2 AVal.undef)), AVal.bool false]] 4 Tag.full, AVal.int IntKind.i64 (0 : Int)]) Sto.empty) (loopV (fun s => St.norm [] [0, 8, 9, 10] [8] s) (vc Try.prog cInsertR code_17_1_1_1_1_1_1_1_1_1_1_1_0_0_0) (blockK 2 (thenK (fun s => cutV (vc Try.prog cInsertR code_17_1_1_1_1_1_1_1_1_1_1_1_1 (endK Try.prog (Array.toList (Go.Func.results Try.f17)) Q)) (St.norm [] [8, 9, 10] [8] s)) (endK Try.prog (Array.toList (Go.Func.results Try.f17)) Q))) (St.mk 83 [(0, AVal.slice (ckv l) 4 Tag.ro), (8, AVal.ptr (Oid.loc 8) 0), (9, AVal.slice (iv y) 1 Tag.ro), (10, AVal.int IntKind.i64 (1 : Int))] [] [(8, AObj.cells [AVal.int IntKind.i64 (AVal.intOf (List.getD (elemAt (ckv l) (↑a : Int)) 0 AVal.undef)), AVal.slice (AVal.elems (List.getD (elemAt (ckv l) (↑a : Int)) 1 AVal.undef)) 1 Tag.ro, AVal.int IntKind.i64 (AVal.intOf (List.getD (elemAt (ckv l) (↑a : Int)) 2 AVal.undef)), AVal.bool (AVal.boolOf (List.getD (elemAt (ckv l) (↑a : Int)) 3 AVal.undef))])] Sto.empty)))))) := by kernel_rfl
noncomputable def insertRM_S (l : List Ck) (c : Ck) (e : List Int) (k : Nat) : St := St.mk 83 [(0, .slice (ckv l) 4 .ro), (8, .ptr (.loc 8) 0), (9, .slice (iv e) 1 .ro), (10, .int .i64 (k : Int))] [] [(8, .cells (ckC c))] (Sto.empty)
noncomputable abbrev insertRM_C : Code := code_17_1_1_1_1_1_1_1_1_1_1_1_0_0_0
theorem insertRM_r (l : List Ck) (c : Ck) (e : List Int) (k : Nat) (L : St → Prop) (K : Exit → St → Prop) : vc Try.prog cInsertR code_17_1_1_1_1_1_1_1_1_1_1_1_0_0_0 (thenK (fun s => L (St.norm [] [0, 8, 9, 10] [8] s)) K) (St.mk 83 [(0, .slice (ckv l) 4 .ro), (8, .ptr (.loc 8) 0), (9, .slice (iv e) 1 .ro), (10, .int .i64 (k : Int))] [] [(8, .cells (ckC c))] (Sto.empty)) =
  (gb (List.all (ckv l) ckIs && lenM (List.length (ckv l))) (brV (hold (List.contains (nosC (List.map ckOf (ckv l))) (↑k : Int))) true (L (St.mk 83 [(0, AVal.slice (ckv l) 4 Tag.ro), (8, AVal.ptr (Oid.loc 8) 0), (9, AVal.slice (iv e) 1 Tag.ro), (10, AVal.int IntKind.i64 (IntKind.wrap IntKind.i64 ((↑k : Int) + (1 : Int))))] [] [(8, AObj.cells [AVal.int IntKind.i64 (Prod.fst c), AVal.slice (iv (Prod.fst (Prod.snd c))) 1 Tag.ro, AVal.int IntKind.i64 (Prod.fst (Prod.snd (Prod.snd c))), AVal.bool (Prod.snd (Prod.snd (Prod.snd c)))])] Sto.empty)) (K (Exit.exit 2) (St.mk 83 [(0, AVal.slice (ckv l) 4 Tag.ro), (8, AVal.ptr (Oid.loc 8) 0), (9, AVal.slice (iv e) 1 Tag.ro), (10, AVal.int IntKind.i64 (↑k : Int)), (67, AVal.bool (hold (List.contains (nosC (List.map ckOf (ckv l))) (↑k : Int))))] [] [(8, AObj.cells [AVal.int IntKind.i64 (Prod.fst c), AVal.slice (iv (Prod.fst (Prod.snd c))) 1 Tag.ro, AVal.int IntKind.i64 (Prod.fst (Prod.snd (Prod.snd c))), AVal.bool (Prod.snd (Prod.snd (Prod.snd c)))])] Sto.empty)))) := by kernel_rfl
noncomputable def insertRF_S (c : Ck) (e : List Int) (k : Nat) : St := St.mk 83 [(8, .ptr (.loc 8) 0), (9, .slice (iv e) 1 .ro), (10, .int .i64 (k : Int))] [] [(8, .cells (ckC c))] (Sto.empty)
noncomputable abbrev insertRF_C : Code := code_17_1_1_1_1_1_1_1_1_1_1_1_1
theorem insertRF_r (c : Ck) (e : List Int) (k : Nat) (Q : AVal → Sto → Prop) : vc Try.prog cInsertR code_17_1_1_1_1_1_1_1_1_1_1_1_1 (endK Try.prog Try.f17.results.toList Q) (St.mk 83 [(8, .ptr (.loc 8) 0), (9, .slice (iv e) 1 .ro), (10, .int .i64 (k : Int))] [] [(8, .cells (ckC c))] (Sto.empty)) =
  (gb (decide ((0 : Int) ≤ (0 : Int) ∧ (0 : Int) ≤ (3 : Int) ∧ (3 : Int) ≤ (↑(List.length (iv e)) : Int))) (gb (decide ((0 : Int) ≤ (3 : Int) ∧ (3 : Int) ≤ (↑(List.length (iv e)) : Int) ∧ (↑(List.length (iv e)) : Int) ≤ (↑(List.length (iv e)) : Int))) (Q (AVal.tuple [AVal.slice [AVal.agg [AVal.int IntKind.i64 (Prod.fst c), AVal.slice (List.take 3 (List.drop 0 (iv e))) 1 Tag.ro, AVal.int IntKind.i64 (↑k : Int), AVal.bool false], AVal.agg [AVal.int IntKind.i64 (↑k : Int), AVal.slice (List.take (Int.toNat (↑(List.length (iv e)) : Int) - 3) (List.drop 3 (iv e))) 1 Tag.ro, AVal.int IntKind.i64 (Prod.fst (Prod.snd (Prod.snd c))), AVal.bool false]] 4 Tag.full, AVal.int IntKind.i64 (0 : Int)]) Sto.empty))) := by kernel_rfl
end Go.Proofs.Ytjdjecaclbdhhaa
end

section
set_option maxRecDepth 100000
set_option maxHeartbeats 0
set_option linter.unusedVariables false
namespace Go.Proofs.Ytjdjecaclbdhhaa
open Go.AL Go.Proofs
noncomputable def cRemoveR : Cfg := { keep := [0, 1, 4, 5, 6, 7, 8, 11, 15, 26, 37], cut := [(9, [0, 1, 6], []), (10, [0, 1, 6], []), (16, [0, 1, 6, 7], [7]), (24, [], [])], orc := ofList [rightRE, hasE, withoutE] }
noncomputable def cSmall : Cfg := { keep := [0, 2, 3, 6, 10, 19], cut := [(9, [0, 3], []), (16, [], [])] }
noncomputable def cCopied : Cfg := { keep := [0, 2, 3, 4, 5, 9], cut := [(7, [0, 3, 4], []), (16, [3], [])], grow := [(3, 4)], rdo := [19] }
noncomputable def cAwake : Cfg := { keep := [0, 1, 2, 3, 4], cut := [], orc := ofList [insertE, sameE] }
noncomputable def code_14_ : Code := (Try.f14.body).getD .skip
noncomputable def code_15_ : Code := (Try.f15.body).getD .skip
noncomputable def code_18_ : Code := (Try.f18.body).getD .skip
noncomputable def code_8_ : Code := (Try.f8.body).getD .skip
noncomputable def code_14_1_1_1 : Code := codeAt code_14_ [1, 1, 1]
noncomputable def code_15_1_1_1 : Code := codeAt code_15_ [1, 1, 1]
noncomputable def code_18_1_1_1 : Code := codeAt code_18_ [1, 1, 1]
noncomputable def code_14_1_1_0_1_0_0 : Code := codeAt code_14_ [1, 1, 0, 1, 0, 0]
noncomputable def code_15_1_1_0_1_0_0 : Code := codeAt code_15_ [1, 1, 0, 1, 0, 0]
noncomputable def code_18_1_1_0_1_0_0 : Code := codeAt code_18_ [1, 1, 0, 1, 0, 0]
noncomputable def code_18_1_1_0_1_0_0_1_1 : Code := codeAt code_18_ [1, 1, 0, 1, 0, 0, 1, 1]
noncomputable def code_18_1_1_0_1_0_0_1_0_0_1_1 : Code := codeAt code_18_ [1, 1, 0, 1, 0, 0, 1, 0, 0, 1, 1]
theorem removeR_r (l : List Ck) (x : Int) (Q : AVal → Sto → Prop) : vc Try.prog cRemoveR code_18_ (endK Try.prog Try.f18.results.toList Q) (St.start Try.f18.ntmps [.slice (ckv l) 4 .ro, .int .i64 x] (Sto.empty)) =
  (gb (List.all (ckv l) ckIs && (lenM (List.length (ckv l)) && List.all (ckv l) ckM)) (brV (!hold (rightC (List.map ckOf (ckv l)))) true (Q (AVal.tuple [AVal.slice [] 0 Tag.nil, AVal.int IntKind.i64 (100 : Int)]) Sto.empty) (loopV (fun s => St.norm [] [0, 1, 6] [] s) (vc Try.prog cRemoveR code_18_1_1_0_1_0_0) (blockK 0 (thenK (fun s => cutV (vc Try.prog cRemoveR code_18_1_1_1 (endK Try.prog (Array.toList (Go.Func.results Try.f18)) Q)) (St.norm [] [] [] s)) (endK Try.prog (Array.toList (Go.Func.results Try.f18)) Q))) (St.mk 64 [(0, AVal.slice (ckv l) 4 Tag.ro), (1, AVal.int IntKind.i64 x), (6, AVal.int IntKind.i64 (0 : Int))] [] [] Sto.empty)))) := by kernel_rfl
theorem removeR_i (l : List Ck) (x : Int) (Q : AVal → Sto → Prop) (ho : OrcOk Try.prog cRemoveR) (h : gb (List.all (ckv l) ckIs && (lenM (List.length (ckv l)) && List.all (ckv l) ckM)) (brV (!hold (rightC (List.map ckOf (ckv l)))) true (Q (AVal.tuple [AVal.slice [] 0 Tag.nil, AVal.int IntKind.i64 (100 : Int)]) Sto.empty) (loopV (fun s => St.norm [] [0, 1, 6] [] s) (vc Try.prog cRemoveR code_18_1_1_0_1_0_0) (blockK 0 (thenK (fun s => cutV (vc Try.prog cRemoveR code_18_1_1_1 (endK Try.prog (Array.toList (Go.Func.results Try.f18)) Q)) (St.norm [] [] [] s)) (endK Try.prog (Array.toList (Go.Func.results Try.f18)) Q))) (St.mk 64 [(0, AVal.slice (ckv l) 4 Tag.ro), (1, AVal.int IntKind.i64 x), (6, AVal.int IntKind.i64 (0 : Int))] [] [] Sto.empty)))) : ACall Try.prog 18 [.slice (ckv l) 4 .ro, .int .i64 x] (Sto.empty) Q :=
  ACall.intro hmix Try.func18 (c := code_18_) (by kernel_rfl) cRemoveR ho (Nat.le_of_ble_eq_true (by kernel_rfl)) (by rw [removeR_r]; exact h)
noncomputable def removeRL_S (l : List Ck) (x : Int) (i : Nat) : St := St.mk 64 [(0, .slice (ckv l) 4 .ro), (1, .int .i64 x), (6, .int .i64 (i : Int))] [] [] (Sto.empty)
noncomputable abbrev removeRL_C : Code := code_18_1_1_0_1_0_0
theorem removeRL_r (l : List Ck) (x : Int) (i : Nat) (L : St → Prop) (K : Exit → St → Prop) : vc Try.prog cRemoveR code_18_1_1_0_1_0_0 (thenK (fun s => L (St.norm [] [0, 1, 6] [] s)) K) (St.mk 64 [(0, .slice (ckv l) 4 .ro), (1, .int .i64 x), (6, .int .i64 (i : Int))] [] [] (Sto.empty)) =
  (brV (hold (decide ((↑i : Int) < (↑(List.length (ckv l)) : Int)))) true (gb (decide ((0 : Int) ≤ (↑i : Int) ∧ (↑i : Int) < (↑(List.length (ckv l)) : Int))) (gb (decide (4 ≤ List.length (elemAt (ckv l) (↑i : Int)) ∧ 0 < 4) && (etaOk (Sh.int IntKind.i64) (List.getD (elemAt (ckv l) (↑i : Int)) 0 AVal.undef) && (sliceOk 1 (List.getD (elemAt (ckv l) (↑i : Int)) 1 AVal.undef) && (etaOk (Sh.int IntKind.i64) (List.getD (elemAt (ckv l) (↑i : Int)) 2 AVal.undef) && (etaOk Sh.bool (List.getD (elemAt (ckv l) (↑i : Int)) 3 AVal.undef) && true))))) (gb (List.all (AVal.elems (List.getD (elemAt (ckv l) (↑i : Int)) 1 AVal.undef)) isI64 && lenOk (List.length (AVal.elems (List.getD (elemAt (ckv l) (↑i : Int)) 1 AVal.undef)))) (brV (!hold (List.contains (List.map AVal.intOf (AVal.elems (List.getD (elemAt (ckv l) (↑i : Int)) 1 AVal.undef))) x)) true (cutV (vc Try.prog cRemoveR code_18_1_1_0_1_0_0_1_1 (thenK (fun s => L (St.norm [] [0, 1, 6] [] s)) K)) (St.mk 64 [(0, AVal.slice (ckv l) 4 Tag.ro), (1, AVal.int IntKind.i64 x), (6, AVal.int IntKind.i64 (↑i : Int))] [] [] Sto.empty)) (cutV (vc Try.prog cRemoveR code_18_1_1_0_1_0_0_1_0_0_1_1 (blockK 1 (thenK (fun s => cutV (vc Try.prog cRemoveR code_18_1_1_0_1_0_0_1_1 (thenK (fun s => L (St.norm [] [0, 1, 6] [] s)) K)) (St.norm [] [0, 1, 6] [] s)) (thenK (fun s => L (St.norm [] [0, 1, 6] [] s)) K)))) (St.mk 64 [(0, AVal.slice (ckv l) 4 Tag.ro), (1, AVal.int IntKind.i64 x), (6, AVal.int IntKind.i64 (↑i : Int)), (7, AVal.ptr (Oid.loc 7) 0)] [] [(7, AObj.cells [AVal.int IntKind.i64 (AVal.intOf (List.getD (elemAt (ckv l) (↑i : Int)) 0 AVal.undef)), AVal.slice (AVal.elems (List.getD (elemAt (ckv l) (↑i : Int)) 1 AVal.undef)) 1 Tag.ro, AVal.int IntKind.i64 (AVal.intOf (List.getD (elemAt (ckv l) (↑i : Int)) 2 AVal.undef)), AVal.bool (AVal.boolOf (List.getD (elemAt (ckv l) (↑i : Int)) 3 AVal.undef))])] Sto.empty)))))) (K (Exit.exit 0) (St.mk 64 [(0, AVal.slice (ckv l) 4 Tag.ro), (1, AVal.int IntKind.i64 x), (6, AVal.int IntKind.i64 (↑i : Int)), (15, AVal.bool (hold (decide ((↑i : Int) < (↑(List.length (ckv l)) : Int)))))] [] [] Sto.empty))) := by kernel_rfl
noncomputable def removeRI_S (l : List Ck) (x : Int) (i : Nat) : St := St.mk 64 [(0, .slice (ckv l) 4 .ro), (1, .int .i64 x), (6, .int .i64 (i : Int))] [] [] (Sto.empty)
noncomputable abbrev removeRI_C : Code := code_18_1_1_0_1_0_0_1_1
theorem removeRI_r (l : List Ck) (x : Int) (i : Nat) (K : Exit → St → Prop) : vc Try.prog cRemoveR code_18_1_1_0_1_0_0_1_1 K (St.mk 64 [(0, .slice (ckv l) 4 .ro), (1, .int .i64 x), (6, .int .i64 (i : Int))] [] [] (Sto.empty)) =
  (K Exit.normal (St.mk 64 [(0, AVal.slice (ckv l) 4 Tag.ro), (1, AVal.int IntKind.i64 x), (6, AVal.int IntKind.i64 (IntKind.wrap IntKind.i64 ((↑i : Int) + (1 : Int))))] [] [] Sto.empty)) := by kernel_rfl
noncomputable def removeRA_S (l : List Ck) (x : Int) (i : Nat) (c : Ck) : St := St.mk 64 [(0, .slice (ckv l) 4 .ro), (1, .int .i64 x), (6, .int .i64 (i : Int)), (7, .ptr (.loc 7) 0)] [] [(7, .cells (ckC c))] (Sto.empty)
noncomputable abbrev removeRA_C : Code := code_18_1_1_0_1_0_0_1_0_0_1_1
theorem removeRA_r (l : List Ck) (x : Int) (i : Nat) (c : Ck) (K : Exit → St → Prop) : vc Try.prog cRemoveR code_18_1_1_0_1_0_0_1_0_0_1_1 K (St.mk 64 [(0, .slice (ckv l) 4 .ro), (1, .int .i64 x), (6, .int .i64 (i : Int)), (7, .ptr (.loc 7) 0)] [] [(7, .cells (ckC c))] (Sto.empty)) =
  (∀ (y : List Int), y = remR (List.map AVal.intOf (iv (Prod.fst (Prod.snd c)))) x → gb (List.all (iv (Prod.fst (Prod.snd c))) isI64 && lenM (List.length (iv (Prod.fst (Prod.snd c))))) (brV (hold (decide ((0 : Int) < (↑(List.length (iv y)) : Int)))) false (brV (hold ((↑i : Int) == (0 : Int))) true (K Exit.ret (St.mk 64 [(0, AVal.slice (ckv l) 4 Tag.ro), (1, AVal.int IntKind.i64 x), (6, AVal.int IntKind.i64 (↑i : Int)), (7, AVal.ptr (Oid.loc 7) 0), (8, AVal.slice (iv y) 1 Tag.ro), (37, AVal.bool (hold ((↑i : Int) == (0 : Int)))), (4, AVal.slice [AVal.agg [AVal.int IntKind.i64 (Prod.fst c), AVal.slice (iv y) 1 Tag.ro, AVal.int IntKind.i64 (Prod.fst (Prod.snd (Prod.snd c))), AVal.bool false]] 4 Tag.full), (5, AVal.int IntKind.i64 (0 : Int))] [] [(7, AObj.cells [AVal.int IntKind.i64 (Prod.fst c), AVal.slice (iv (Prod.fst (Prod.snd c))) 1 Tag.ro, AVal.int IntKind.i64 (Prod.fst (Prod.snd (Prod.snd c))), AVal.bool (Prod.snd (Prod.snd (Prod.snd c)))])] Sto.empty)) (gb (decide ((0 : Int) ≤ IntKind.wrap IntKind.i64 ((↑i : Int) - (1 : Int)) ∧ IntKind.wrap IntKind.i64 ((↑i : Int) - (1 : Int)) < (↑(List.length (ckv l)) : Int))) (gb (decide (1 ≤ List.length (List.drop 0 (elemAt (ckv l) (IntKind.wrap IntKind.i64 ((↑i : Int) - (1 : Int))))) ∧ 0 < 1) && etaOk (Sh.int IntKind.i64) (List.getD (List.drop 0 (elemAt (ckv l) (IntKind.wrap IntKind.i64 ((↑i : Int) - (1 : Int))))) 0 AVal.undef)) (gb (decide ((0 : Int) ≤ IntKind.wrap IntKind.i64 ((↑i : Int) - (1 : Int)) ∧ IntKind.wrap IntKind.i64 ((↑i : Int) - (1 : Int)) < (↑(List.length (ckv l)) : Int))) (gb (decide (1 ≤ List.length (List.drop 1 (elemAt (ckv l) (IntKind.wrap IntKind.i64 ((↑i : Int) - (1 : Int))))) ∧ 0 < 1) && sliceOk 1 (List.getD (List.drop 1 (elemAt (ckv l) (IntKind.wrap IntKind.i64 ((↑i : Int) - (1 : Int))))) 0 AVal.undef)) (K Exit.ret (St.mk 64 [(0, AVal.slice (ckv l) 4 Tag.ro), (1, AVal.int IntKind.i64 x), (6, AVal.int IntKind.i64 (↑i : Int)), (7, AVal.ptr (Oid.loc 7) 0), (8, AVal.slice (iv y) 1 Tag.ro), (37, AVal.bool (hold ((↑i : Int) == (0 : Int)))), (4, AVal.slice [AVal.agg [AVal.int IntKind.i64 (AVal.intOf (List.getD (List.drop 0 (elemAt (ckv l) (IntKind.wrap IntKind.i64 ((↑i : Int) - (1 : Int))))) 0 AVal.undef)), AVal.slice (AVal.elems (List.getD (List.drop 1 (elemAt (ckv l) (IntKind.wrap IntKind.i64 ((↑i : Int) - (1 : Int))))) 0 AVal.undef)) 1 Tag.ro, AVal.int IntKind.i64 (Prod.fst (Prod.snd (Prod.snd c))), AVal.bool false], AVal.agg [AVal.int IntKind.i64 (Prod.fst c), AVal.slice [] 0 Tag.nil, AVal.int IntKind.i64 (0 : Int), AVal.bool true]] 4 Tag.full), (5, AVal.int IntKind.i64 (0 : Int))] [] [(7, AObj.cells [AVal.int IntKind.i64 (Prod.fst c), AVal.slice (iv (Prod.fst (Prod.snd c))) 1 Tag.ro, AVal.int IntKind.i64 (Prod.fst (Prod.snd (Prod.snd c))), AVal.bool (Prod.snd (Prod.snd (Prod.snd c)))])] Sto.empty))))))) (K Exit.ret (St.mk 64 [(0, AVal.slice (ckv l) 4 Tag.ro), (1, AVal.int IntKind.i64 x), (6, AVal.int IntKind.i64 (↑i : Int)), (7, AVal.ptr (Oid.loc 7) 0), (8, AVal.slice (iv y) 1 Tag.ro), (37, AVal.bool true), (4, AVal.slice [AVal.agg [AVal.int IntKind.i64 (Prod.fst c), AVal.slice (iv y) 1 Tag.ro, AVal.int IntKind.i64 (Prod.fst (Prod.snd (Prod.snd c))), AVal.bool false]] 4 Tag.full), (5, AVal.int IntKind.i64 (0 : Int))] [] [(7, AObj.cells [AVal.int IntKind.i64 (Prod.fst c), AVal.slice (iv (Prod.fst (Prod.snd c))) 1 Tag.ro, AVal.int IntKind.i64 (Prod.fst (Prod.snd (Prod.snd c))), AVal.bool (Prod.snd (Prod.snd (Prod.snd c)))])] Sto.empty)))) := by kernel_rfl
noncomputable def removeRF_S  : St := St.mk 64 [] [] [] (Sto.empty)
noncomputable abbrev removeRF_C : Code := code_18_1_1_1
theorem removeRF_r  (Q : AVal → Sto → Prop) : vc Try.prog cRemoveR code_18_1_1_1 (endK Try.prog Try.f18.results.toList Q) (St.mk 64 [] [] [] (Sto.empty)) =
  (Q (AVal.tuple [AVal.slice [] 0 Tag.nil, AVal.int IntKind.i64 (101 : Int)]) Sto.empty) := by kernel_rfl
theorem small_r (l : List Ck) (Q : AVal → Sto → Prop) : vc Try.prog cSmall code_14_ (endK Try.prog Try.f14.results.toList Q) (St.start Try.f14.ntmps [.slice (ckv l) 4 .ro] (Sto.empty)) =
  (brV (hold (decide ((40 : Int) < (↑(List.length (ckv l)) : Int)))) true (Q (AVal.bool false) Sto.empty) (loopV (fun s => St.norm [] [0, 3] [] s) (vc Try.prog cSmall code_14_1_1_0_1_0_0) (blockK 0 (thenK (fun s => cutV (vc Try.prog cSmall code_14_1_1_1 (endK Try.prog (Array.toList (Go.Func.results Try.f14)) Q)) (St.norm [] [] [] s)) (endK Try.prog (Array.toList (Go.Func.results Try.f14)) Q))) (St.mk 20 [(0, AVal.slice (ckv l) 4 Tag.ro), (3, AVal.int IntKind.i64 (0 : Int))] [] [] Sto.empty))) := by kernel_rfl
theorem small_i (l : List Ck) (Q : AVal → Sto → Prop) (ho : OrcOk Try.prog cSmall) (h : brV (hold (decide ((40 : Int) < (↑(List.length (ckv l)) : Int)))) true (Q (AVal.bool false) Sto.empty) (loopV (fun s => St.norm [] [0, 3] [] s) (vc Try.prog cSmall code_14_1_1_0_1_0_0) (blockK 0 (thenK (fun s => cutV (vc Try.prog cSmall code_14_1_1_1 (endK Try.prog (Array.toList (Go.Func.results Try.f14)) Q)) (St.norm [] [] [] s)) (endK Try.prog (Array.toList (Go.Func.results Try.f14)) Q))) (St.mk 20 [(0, AVal.slice (ckv l) 4 Tag.ro), (3, AVal.int IntKind.i64 (0 : Int))] [] [] Sto.empty))) : ACall Try.prog 14 [.slice (ckv l) 4 .ro] (Sto.empty) Q :=
  ACall.intro hmix Try.func14 (c := code_14_) (by kernel_rfl) cSmall ho (Nat.le_of_ble_eq_true (by kernel_rfl)) (by rw [small_r]; exact h)
noncomputable def smallL_S (l : List Ck) (i : Nat) : St := St.mk 20 [(0, .slice (ckv l) 4 .ro), (3, .int .i64 (i : Int))] [] [] (Sto.empty)
noncomputable abbrev smallL_C : Code := code_14_1_1_0_1_0_0
theorem smallL_r (l : List Ck) (i : Nat) (L : St → Prop) (K : Exit → St → Prop) : vc Try.prog cSmall code_14_1_1_0_1_0_0 (thenK (fun s => L (St.norm [] [0, 3] [] s)) K) (St.mk 20 [(0, .slice (ckv l) 4 .ro), (3, .int .i64 (i : Int))] [] [] (Sto.empty)) =
  (brV (hold (decide ((↑i : Int) < (↑(List.length (ckv l)) : Int)))) true (gb (decide ((0 : Int) ≤ (↑i : Int) ∧ (↑i : Int) < (↑(List.length (ckv l)) : Int))) (gb (decide (1 ≤ List.length (List.drop 1 (elemAt (ckv l) (↑i : Int))) ∧ 0 < 1) && sliceOk 1 (List.getD (List.drop 1 (elemAt (ckv l) (↑i : Int))) 0 AVal.undef)) (brV (hold (decide ((20 : Int) < (↑(List.length (AVal.elems (List.getD (List.drop 1 (elemAt (ckv l) (↑i : Int))) 0 AVal.undef))) : Int)))) true (K Exit.ret (St.mk 20 [(0, AVal.slice (ckv l) 4 Tag.ro), (3, AVal.int IntKind.i64 (↑i : Int)), (10, AVal.bool (hold (decide ((↑i : Int) < (↑(List.length (ckv l)) : Int))))), (19, AVal.bool (hold (decide ((20 : Int) < (↑(List.length (AVal.elems (List.getD (List.drop 1 (elemAt (ckv l) (↑i : Int))) 0 AVal.undef))) : Int))))), (2, AVal.bool false)] [] [] Sto.empty)) (L (St.mk 20 [(0, AVal.slice (ckv l) 4 Tag.ro), (3, AVal.int IntKind.i64 (IntKind.wrap IntKind.i64 ((↑i : Int) + (1 : Int))))] [] [] Sto.empty))))) (K (Exit.exit 0) (St.mk 20 [(0, AVal.slice (ckv l) 4 Tag.ro), (3, AVal.int IntKind.i64 (↑i : Int)), (10, AVal.bool (hold (decide ((↑i : Int) < (↑(List.length (ckv l)) : Int)))))] [] [] Sto.empty))) := by kernel_rfl
noncomputable def smallF_S  : St := St.mk 20 [] [] [] (Sto.empty)
noncomputable abbrev smallF_C : Code := code_14_1_1_1
theorem smallF_r  (Q : AVal → Sto → Prop) : vc Try.prog cSmall code_14_1_1_1 (endK Try.prog Try.f14.results.toList Q) (St.mk 20 [] [] [] (Sto.empty)) =
  (Q (AVal.bool true) Sto.empty) := by kernel_rfl
theorem copied_r (l : List Ck) (Q : AVal → Sto → Prop) : vc Try.prog cCopied code_15_ (endK Try.prog Try.f15.results.toList Q) (St.start Try.f15.ntmps [.slice (ckv l) 4 .ro] (Sto.empty)) =
  (loopV (fun s => St.norm [(3, 4)] [0, 3, 4] [] s) (vc Try.prog cCopied code_15_1_1_0_1_0_0) (blockK 0 (thenK (fun s => cutV (vc Try.prog cCopied code_15_1_1_1 (endK Try.prog (Array.toList (Go.Func.results Try.f15)) Q)) (St.norm [(3, 4)] [3] [] s)) (endK Try.prog (Array.toList (Go.Func.results Try.f15)) Q))) (St.mk 26 [(0, AVal.slice (ckv l) 4 Tag.ro), (3, AVal.slice [] 4 (Tag.own 0)), (4, AVal.int IntKind.i64 (0 : Int))] [] [] (Sto.pushOwn Sto.empty 0))) := by kernel_rfl
theorem copied_i (l : List Ck) (Q : AVal → Sto → Prop) (ho : OrcOk Try.prog cCopied) (h : loopV (fun s => St.norm [(3, 4)] [0, 3, 4] [] s) (vc Try.prog cCopied code_15_1_1_0_1_0_0) (blockK 0 (thenK (fun s => cutV (vc Try.prog cCopied code_15_1_1_1 (endK Try.prog (Array.toList (Go.Func.results Try.f15)) Q)) (St.norm [(3, 4)] [3] [] s)) (endK Try.prog (Array.toList (Go.Func.results Try.f15)) Q))) (St.mk 26 [(0, AVal.slice (ckv l) 4 Tag.ro), (3, AVal.slice [] 4 (Tag.own 0)), (4, AVal.int IntKind.i64 (0 : Int))] [] [] (Sto.pushOwn Sto.empty 0))) : ACall Try.prog 15 [.slice (ckv l) 4 .ro] (Sto.empty) Q :=
  ACall.intro hmix Try.func15 (c := code_15_) (by kernel_rfl) cCopied ho (Nat.le_of_ble_eq_true (by kernel_rfl)) (by rw [copied_r]; exact h)
noncomputable def copiedL_S (l : List Ck) (o : List Ck) (i : Nat) : St := St.mk 26 [(0, .slice (ckv l) 4 .ro), (3, .slice (ckv o) 4 (.own 0)), (4, .int .i64 (i : Int))] [] [] (Sto.pushOwn Sto.empty (ckv o).length)
noncomputable abbrev copiedL_C : Code := code_15_1_1_0_1_0_0
theorem copiedL_r (l : List Ck) (o : List Ck) (i : Nat) (L : St → Prop) (K : Exit → St → Prop) : vc Try.prog cCopied code_15_1_1_0_1_0_0 (thenK (fun s => L (St.norm [(3, 4)] [0, 3, 4] [] s)) K) (St.mk 26 [(0, .slice (ckv l) 4 .ro), (3, .slice (ckv o) 4 (.own 0)), (4, .int .i64 (i : Int))] [] [] (Sto.pushOwn Sto.empty (ckv o).length)) =
  (brV (hold (decide ((↑i : Int) < (↑(List.length (ckv l)) : Int)))) true (gb (decide ((0 : Int) ≤ (↑i : Int) ∧ (↑i : Int) < (↑(List.length (ckv l)) : Int))) (gb (decide (4 ≤ List.length (elemAt (ckv l) (↑i : Int)) ∧ 0 < 4) && (etaOk (Sh.int IntKind.i64) (List.getD (elemAt (ckv l) (↑i : Int)) 0 AVal.undef) && (sliceOk 1 (List.getD (elemAt (ckv l) (↑i : Int)) 1 AVal.undef) && (etaOk (Sh.int IntKind.i64) (List.getD (elemAt (ckv l) (↑i : Int)) 2 AVal.undef) && (etaOk Sh.bool (List.getD (elemAt (ckv l) (↑i : Int)) 3 AVal.undef) && true))))) (gb (decide (decide (true = true ∧ List.length (AVal.elems (List.getD (elemAt (ckv l) (↑i : Int)) 1 AVal.undef)) * 8 ≤ 140737488355328 ∧ List.length (AVal.elems (List.getD (elemAt (ckv l) (↑i : Int)) 1 AVal.undef)) ≤ 9223372036854775807) = true ∧ true = true)) (gb (decide (decide (true = true ∧ some (List.length (ckv o)) = some (List.length (ckv o)) ∧ (List.length (ckv o) + 1) * 48 ≤ 140737488355328 ∧ List.length (ckv o) + 1 ≤ 9223372036854775807) = true ∧ true = true)) (L (St.mk 26 [(0, AVal.slice (ckv l) 4 Tag.ro), (3, AVal.slice (ckv o ++ [AVal.agg [AVal.int IntKind.i64 (AVal.intOf (List.getD (elemAt (ckv l) (↑i : Int)) 0 AVal.undef)), AVal.slice (AVal.elems (List.getD (elemAt (ckv l) (↑i : Int)) 1 AVal.undef)) 1 Tag.ro, AVal.int IntKind.i64 (AVal.intOf (List.getD (elemAt (ckv l) (↑i : Int)) 2 AVal.undef)), AVal.bool (AVal.boolOf (List.getD (elemAt (ckv l) (↑i : Int)) 3 AVal.undef))]]) 4 (Tag.own 0)), (4, AVal.int IntKind.i64 (IntKind.wrap IntKind.i64 ((↑i : Int) + (1 : Int))))] [] [] (Sto.setOwn (Sto.pushOwn Sto.empty (List.length (ckv o))) 0 (List.length (ckv o) + 1)))))))) (K (Exit.exit 0) (St.mk 26 [(0, AVal.slice (ckv l) 4 Tag.ro), (3, AVal.slice (ckv o) 4 (Tag.own 0)), (4, AVal.int IntKind.i64 (↑i : Int)), (9, AVal.bool (hold (decide ((↑i : Int) < (↑(List.length (ckv l)) : Int)))))] [] [] (Sto.pushOwn Sto.empty (List.length (ckv o)))))) := by kernel_rfl
noncomputable def copiedF_S (o : List Ck) : St := St.mk 26 [(3, .slice (ckv o) 4 (.own 0))] [] [] (Sto.pushOwn Sto.empty (ckv o).length)
noncomputable abbrev copiedF_C : Code := code_15_1_1_1
theorem copiedF_r (o : List Ck) (Q : AVal → Sto → Prop) : vc Try.prog cCopied code_15_1_1_1 (endK Try.prog Try.f15.results.toList Q) (St.mk 26 [(3, .slice (ckv o) 4 (.own 0))] [] [] (Sto.pushOwn Sto.empty (ckv o).length)) =
  (Q (AVal.slice (ckv o) 4 (Tag.own 0)) (Sto.pushOwn Sto.empty (List.length (ckv o)))) := by kernel_rfl
theorem awake_r  (Q : AVal → Sto → Prop) : vc Try.prog cAwake code_8_ (endK Try.prog Try.f8.results.toList Q) (St.start Try.f8.ntmps [] (Sto.empty)) =
  (∀ (y : Cc), y = ([((0 : Int), [(5 : Int)], (0 : Int), false)], (0 : Int)) → gb (lenM 0 && true) (∀ (y_1 : Cc), y_1 = ([((0 : Int), [(1 : Int), (2 : Int), (3 : Int)], (1 : Int), false), ((1 : Int), [(4 : Int), (5 : Int)], (0 : Int), false)], (0 : Int)) → gb (lenM 1 && List.all [AVal.agg [AVal.int IntKind.i64 (0 : Int), AVal.slice [AVal.int IntKind.i64 (1 : Int), AVal.int IntKind.i64 (2 : Int), AVal.int IntKind.i64 (4 : Int), AVal.int IntKind.i64 (5 : Int)] 1 Tag.full, AVal.int IntKind.i64 (0 : Int), AVal.bool false]] ckM) (brV (hold (Prod.snd y == (0 : Int))) true (gb (List.all (ckv (Prod.fst y)) ckIs && (lenM (List.length (ckv (Prod.fst y))) && List.all (ckv (Prod.fst y)) ckM)) (brV (hold (List.map ckOf (ckv (Prod.fst y)) == [((0 : Int), [(5 : Int)], (0 : Int), false)])) true (brV (hold (Prod.snd y_1 == (0 : Int))) true (gb (List.all (ckv (Prod.fst y_1)) ckIs && (lenM (List.length (ckv (Prod.fst y_1))) && List.all (ckv (Prod.fst y_1)) ckM)) (Q (AVal.bool (hold (List.map ckOf (ckv (Prod.fst y_1)) == [((0 : Int), [(1 : Int), (2 : Int), (3 : Int)], (1 : Int), false), ((1 : Int), [(4 : Int), (5 : Int)], (0 : Int), false)]))) Sto.empty)) (Q (AVal.bool false) Sto.empty)) (Q (AVal.bool false) Sto.empty))) (Q (AVal.bool false) Sto.empty)))) := by kernel_rfl
theorem awake_i  (Q : AVal → Sto → Prop) (ho : OrcOk Try.prog cAwake) (h : ∀ (y : Cc), y = ([((0 : Int), [(5 : Int)], (0 : Int), false)], (0 : Int)) → gb (lenM 0 && true) (∀ (y_1 : Cc), y_1 = ([((0 : Int), [(1 : Int), (2 : Int), (3 : Int)], (1 : Int), false), ((1 : Int), [(4 : Int), (5 : Int)], (0 : Int), false)], (0 : Int)) → gb (lenM 1 && List.all [AVal.agg [AVal.int IntKind.i64 (0 : Int), AVal.slice [AVal.int IntKind.i64 (1 : Int), AVal.int IntKind.i64 (2 : Int), AVal.int IntKind.i64 (4 : Int), AVal.int IntKind.i64 (5 : Int)] 1 Tag.full, AVal.int IntKind.i64 (0 : Int), AVal.bool false]] ckM) (brV (hold (Prod.snd y == (0 : Int))) true (gb (List.all (ckv (Prod.fst y)) ckIs && (lenM (List.length (ckv (Prod.fst y))) && List.all (ckv (Prod.fst y)) ckM)) (brV (hold (List.map ckOf (ckv (Prod.fst y)) == [((0 : Int), [(5 : Int)], (0 : Int), false)])) true (brV (hold (Prod.snd y_1 == (0 : Int))) true (gb (List.all (ckv (Prod.fst y_1)) ckIs && (lenM (List.length (ckv (Prod.fst y_1))) && List.all (ckv (Prod.fst y_1)) ckM)) (Q (AVal.bool (hold (List.map ckOf (ckv (Prod.fst y_1)) == [((0 : Int), [(1 : Int), (2 : Int), (3 : Int)], (1 : Int), false), ((1 : Int), [(4 : Int), (5 : Int)], (0 : Int), false)]))) Sto.empty)) (Q (AVal.bool false) Sto.empty)) (Q (AVal.bool false) Sto.empty))) (Q (AVal.bool false) Sto.empty)))) : ACall Try.prog 8 [] (Sto.empty) Q :=
  ACall.intro hmix Try.func8 (c := code_8_) (by kernel_rfl) cAwake ho (Nat.le_of_ble_eq_true (by kernel_rfl)) (by rw [awake_r]; exact h)
end Go.Proofs.Ytjdjecaclbdhhaa
end

section
namespace Go.Proofs.Ytjdjecaclbdhhaa
open Go.AL
set_option linter.unusedSimpArgs false
set_option linter.unusedVariables false
set_option maxHeartbeats 2000000
set_option maxRecDepth 20000

theorem putF_true (x : Int) : ∀ l : List Int, putF x true l = l
  | [] => rfl
  | y :: r => by rw [putF, if_neg (by simp), putF_true x r]
theorem putR_eq : ∀ {l : List Int} {x : Int}, l.Pairwise (· < ·) → x ∉ l → putR l x = insS l x
  | [], x, _, _ => rfl
  | y :: r, x, hp, hx => by
    rw [insS_cons y r x hp hx]
    unfold putR
    rw [putF]
    have hxy : x ≠ y := fun e => hx (by simp [e])
    by_cases h : y < x
    · rw [if_neg (by omega), if_pos h]
      congr 1
      exact putR_eq (List.pairwise_cons.1 hp).2 fun hm => hx (List.mem_cons_of_mem _ hm)
    · rw [if_pos ⟨by omega, rfl⟩, if_neg h, putF_true]
theorem mem_place {p : List Pt} (hG : GoodC p) {x : Int} {i : Nat} (hi : i < p.length) (hx : x ∈ p[i].2) : placeC (mkC p) x = i := by
  obtain ⟨p1, n, e, p2, rfl, hpl, hlo, hhi⟩ := place_split hG (by rintro rfl; simp at hi) x
  rw [hpl]
  rcases Nat.lt_trichotomy i p1.length with h | h | h
  · rw [List.getElem_append_left h] at hx
    have := hlo x (mem_idsP.2 ⟨p1[i], List.getElem_mem h, hx⟩)
    omega
  · exact h.symm
  · rw [List.getElem_append_right (by omega)] at hx
    obtain ⟨k, hk⟩ : ∃ k, i - p1.length = k + 1 := ⟨i - p1.length - 1, by omega⟩
    simp only [hk, List.getElem_cons_succ] at hx
    have hk2 : k < p2.length := by simp at hi; omega
    have := hhi x (mem_idsP.2 ⟨p2[k], List.getElem_mem hk2, hx⟩)
    omega
theorem insertR_c (l : List Ck) (x : Int) (hl : l.length ≤ 1000000) (hm : ∀ c ∈ l, c.2.1.length ≤ 1000000) :
    ACall Try.prog 17 [.slice (ckv l) 4 .ro, .int .i64 x] Sto.empty fun r _ => Wk r (.tuple [.slice (ckv (insK l x).1) 4 .ro, .int .i64 (insK l x).2]) := by
  refine insertR_i l x _ (.of [rightRE, idsRE, hasE, putE, usedE] rfl ⟨rightR_ok, idsR_ok, has_ok, put_ok, used_ok, trivial⟩) ?_
  have hn : (ckv l).length = l.length := ckv_length l
  have hC := conds hl hm
  simp only [hold_eq, map_ckOf, map_intOf_iv]
  refine gb_by hC (brV_by (fun h => ?_) (fun h => ?_))
  · have h : rightC l = false := by simpa using h
    have e : insK l x = ([], 100) := by unfold insK; rw [if_neg (by rw [h]; simp)]
    rw [e]; exact tup_nil _
  have hR : rightC l = true := by simpa using h
  refine brV_by' (fun h0 => ?_) (fun h0 => ?_)
  rotate_left
  · have h0 : x < 0 := of_decide_eq_true h0
    have e : insK l x = ([], 2) := by unfold insK; rw [if_pos hR, if_pos (.inl h0)]
    rw [e]; exact tup_nil _
  have h0 : ¬ x < 0 := of_decide_eq_false h0
  refine brV_by (fun h1 => ?_) (fun h1 => ?_)
  · have h1 : 1099511627776 ≤ x := of_decide_eq_true h1
    have e : insK l x = ([], 2) := by unfold insK; rw [if_pos hR, if_pos (.inr h1)]
    rw [e]; exact tup_nil _
  have h1 : ¬ 1099511627776 ≤ x := of_decide_eq_false h1
  have hA : ¬ (x < 0 ∨ 1099511627776 ≤ x) := by omega
  obtain ⟨p, hG, rfl⟩ := good_right hR
  have hpl := mkC_length p
  intro y hy
  have hyl : y.length ≤ 4 * p.length := by rw [hy, idsC_mkC]; exact ids_le hG
  refine gb_by hC (gb_by (and_tt (iv_isI64 _) (lenOk_mk (by rw [iv_length]; omega))) (brV_by (fun h => ?_) (fun h2 => ?_)))
  · have hc : (idsC (mkC p)).contains x = true := by rw [← hy]; exact h
    have e : insK (mkC p) x = ([], 31) := by unfold insK; rw [if_pos hR, if_neg hA, if_pos hc]
    rw [e]; exact tup_nil _
  have hc : ¬ (idsC (mkC p)).contains x = true := by rw [← hy]; simpa using h2
  have hxn : x ∉ idsP p := by rw [← idsC_mkC]; simpa using hc
  refine brV_by (fun h => ?_) (fun h3 => ?_)
  · have h : (((ckv (mkC p)).length : Int) == 0) = true := h
    have hz : mkC p = [] := List.eq_nil_of_length_eq_zero (by have : ((ckv (mkC p)).length : Int) = 0 := by simpa using h
                                                              omega)
    have e : insK (mkC p) x = ([(0, [x], 0, false)], 0) := by unfold insK; rw [if_pos hR, if_neg hA, if_neg hc, if_pos (by rw [hz]; rfl)]
    rw [e]
    exact tup_of (by simp [ckOf, AVal.intOf]) (by simp [ckIs, okW_same, isI64])
  have hne : p ≠ [] := by
    rintro rfl
    have h3 : (((ckv (mkC [])).length : Int) == 0) = false := h3
    simp [mkC] at h3
  have hE : ¬ (mkC p).isEmpty = true := by rw [List.isEmpty_iff]; intro h; rw [h] at hpl; exact hne (List.eq_nil_of_length_eq_zero hpl.symm)
  obtain ⟨p1, n, e, p2, hp, hplc, _, _⟩ := place_split hG hne x
  have hlen : p.length = p1.length + (p2.length + 1) := by rw [hp]; simp
  have hgd : (mkC p).getD p1.length ck0 = (n, e, hdN p2 0, false) := by rw [hp]; exact getD_split p1 n e p2
  have hlt : p1.length < (mkC p).length := by omega
  have hget : (mkC p)[p1.length] = (n, e, hdN p2 0, false) := by
    rw [List.getD_eq_getElem?_getD, List.getElem?_eq_getElem hlt] at hgd; exact hgd
  have he4 : e.length ≤ 4 := by rw [hp] at hG; exact (place_part hG).1
  have hem : (n, e) ∈ p := by rw [hp]; simp
  have her : e.Pairwise (· < ·) := ris_part hG.ris hem
  have hxe : x ∉ e := fun h => hxn (mem_idsP.2 ⟨(n, e), hem, h⟩)
  have hie : (iv e).length = e.length := iv_length e
  have hI : insK (mkC p) x = if (insS e x).length ≤ 4 then ([(n, insS e x, hdN p2 0, false)], 0)
        else ([(n, (insS e x).take 3, (freeN (nosC (mkC p)) : Int), false), ((freeN (nosC (mkC p)) : Int), (insS e x).drop 3, hdN p2 0, false)], 0) := by
    unfold insK
    rw [if_pos hR, if_neg hA, if_neg hc, if_neg hE, hplc]
    simp only [hgd]
    rfl
  have hil2 : (insS e x).length = e.length + 1 := insS_length e x
  refine loopV_intro (α := Nat × Nat) (fun s => insertRL_S (mkC p) x s.1 s.2) (fun s => 1 ≤ s.2 ∧ s.2 ≤ (mkC p).length ∧ s.1 = placeC ((mkC p).take s.2) x) (fun s => (mkC p).length - s.2) ?_ (0, 1) ⟨Nat.le_refl _, by show 1 ≤ (mkC p).length; omega, ?_⟩
  rotate_left
  · show 0 = placeC ((mkC p).take (0 + 1)) x
    rw [place_take _ _ 0 (by omega)]
    split <;> rfl
  rintro ⟨a, i⟩ ⟨g1, g2, g3⟩ L hL
  simp only at g1 g2 g3
  refine Eq.mpr (insertRL_r (mkC p) x a i L _) ?_
  simp only [hold_eq]
  refine brV_by (fun h => ?_) (fun h => ?_)
  · have hil : i < (mkC p).length := by have := of_decide_eq_true h; omega
    have hip : i < p.length := by omega
    have hci := mkC_get p i hip
    have hpi2 : p[i].2 ≠ [] := by
      obtain ⟨y, r, rfl⟩ := List.exists_cons_of_ne_nil hne
      have := (hG.hd y r rfl).2
      obtain ⟨j, rfl⟩ : ∃ j, i = j + 1 := ⟨i - 1, by omega⟩
      have hj : j < r.length := by simpa using hip
      exact (this r[j] (List.getElem_mem hj)).2
    have hne0 : 0 < p[i].2.length := List.length_pos_iff.2 hpi2
    have hiv : (iv p[i].2).length = p[i].2.length := iv_length _
    have ee : AVal.elems (List.getD (List.drop 1 (ckC (mkC p)[i])) 0 .undef) = iv p[i].2 := by rw [hci]; rfl
    have e0 : elemAt (iv p[i].2) 0 = [.int .i64 p[i].2[0]] := elemAt_iv p[i].2 0 hne0
    have hg0 : p[i].2.getD 0 0 = p[i].2[0] := by rw [List.getD_eq_getElem?_getD, List.getElem?_eq_getElem hne0]; rfl
    have hx0 : x ≠ p[i].2[0] := fun e => hxn (mem_idsP.2 ⟨p[i], List.getElem_mem hip, by rw [e]; exact List.getElem_mem hne0⟩)
    have hpt := place_take (mkC p) x i hil
    have hci2 : (mkC p)[i].2.1 = p[i].2 := by rw [hci]
    rw [hci2, hg0, ← g3] at hpt
    rw [elemAt_ckv _ i hil, ee, e0]
    have nxt : ∀ a' : Nat, a' = placeC ((mkC p).take (i + 1)) x → ∀ K : Exit → St → Prop, vc Try.prog cInsertR insertRI_C (thenK (fun s => L (St.norm [] [0, 1, 6, 7] [] s)) K) (insertRI_S (mkC p) x a' i) := by
      intro a' q K
      refine Eq.mpr (insertRI_r (mkC p) x a' i _) ?_
      rw [i64_succ hil (by omega)]
      exact hL (a', i + 1) ⟨by simp only; omega, hil, q⟩ (by simp only; omega)
    refine gb_by (dt (by omega)) (gb_by rfl (gb_by (dt ⟨by omega, by omega⟩) (gb_by rfl (brV_by (fun h => ?_) (fun h => ?_)))))
    · have h : p[i].2[0] < x := of_decide_eq_true h
      rw [if_pos ⟨hpi2, by omega⟩] at hpt
      exact toCut (nxt i hpt.symm _)
    · have h : ¬ p[i].2[0] < x := of_decide_eq_false h
      rw [if_neg (by rintro ⟨_, h2⟩; omega)] at hpt
      exact toCut (nxt a hpt.symm _)
  · have hi' : i = (mkC p).length := by have := of_decide_eq_false h; omega
    rw [hi', List.take_length, hplc] at g3
    subst g3
    refine leaveTo (toCut (Eq.mpr (insertRA_r (mkC p) x p1.length _) ?_))
    rw [elemAt_ckv _ p1.length hlt, hget]
    refine gb_by (dt (by omega)) (gb_by rfl ?_)
    intro z hz
    simp only [ckC, List.getD_cons_zero, List.getD_cons_succ, AVal.elems, map_intOf_iv] at hz
    rw [putR_eq her hxe] at hz
    simp only [ckC, List.getD_cons_zero, List.getD_cons_succ, AVal.intOf, AVal.elems, AVal.boolOf, map_intOf_iv, hold_eq]
    have hzl : (iv z).length = z.length := iv_length z
    have hzl2 : z.length = e.length + 1 := by rw [hz]; exact hil2
    rw [← hz] at hI
    refine gb_by (and_tt (iv_isI64 _) (lenM_mk (by omega))) (brV_by (fun h => ?_) (fun h => ?_))
    · have h : z.length ≤ 4 := by have := of_decide_eq_true h; omega
      rw [hI, if_pos h]
      exact tup_of (by simp [ckOf, AVal.intOf]) (by simp [ckIs, okW_same])
    · have h : ¬ z.length ≤ 4 := by have := of_decide_eq_false h; omega
      rw [hI, if_neg h]
      refine loopV_intro (α := Nat) (fun k => insertRM_S (mkC p) (n, e, hdN p2 0, false) z k)
        (fun no => 1 ≤ no ∧ ∀ k : Nat, 1 ≤ k → k < no → (k : Int) ∈ nosC (mkC p)) (fun no => (nosC (mkC p)).length + 1 - no) ?_ 1 ⟨Nat.le_refl _, fun k _ _ => by omega⟩
      have hnl : (nosC (mkC p)).length = (mkC p).length := by simp [nosC]
      rintro no ⟨hno, hbel⟩ L2 hL2
      have hpig := pig (no - 1) (nosC (mkC p)) fun k hk hk2 => hbel k hk (by omega)
      refine Eq.mpr (insertRM_r (mkC p) (n, e, hdN p2 0, false) z no L2 _) ?_
      simp only [hold_eq, map_ckOf]
      refine gb_by (and_tt (ckv_is _) (lenM_mk (by omega))) (brV_by (fun h => ?_) (fun h => ?_))
      · have hmm : (no : Int) ∈ nosC (mkC p) := List.contains_iff_mem.1 h
        have hb2 : ∀ k : Nat, 1 ≤ k → k < no + 1 → (k : Int) ∈ nosC (mkC p) := fun k hk hk2 => by
          rcases Nat.lt_or_ge k no with h4 | h4
          · exact hbel k hk h4
          · obtain rfl : k = no := by omega
            exact hmm
        have := pig no (nosC (mkC p)) fun k hk hk2 => hb2 k hk (by omega)
        have hw : IntKind.i64.wrap ((no : Int) + 1) = ((no + 1 : Nat) : Int) := by rw [wrap_i64 (by omega) (by omega)]; rfl
        rw [hw]
        exact hL2 (no + 1) ⟨by omega, hb2⟩ (by omega)
      · have hmm : ¬ (no : Int) ∈ nosC (mkC p) := fun h' => by rw [List.contains_iff_mem.2 h'] at h; cases h
        have hfree := freeN_uniq hno hmm hbel
        refine leaveTo (toCut (Eq.mpr (insertRF_r (n, e, hdN p2 0, false) z no _) ?_))
        rw [← hfree]
        have e1 : List.take (Int.toNat ((iv z).length : Int) - 3) (List.drop 3 (iv z)) = iv (z.drop 3) := by
          rw [iv_drop, List.take_of_length_le (by rw [List.length_drop]; omega)]
        have e2 : List.take 3 (List.drop 0 (iv z)) = iv (z.take 3) := by rw [iv_take, List.drop_zero]
        rw [e1, e2]
        refine gb_by (dt (by omega)) (gb_by (dt (by omega)) ?_)
        exact tup_of (by simp [ckOf, AVal.intOf]) (by simp [ckIs, okW_same])
theorem insertR_ok : EntOk Try.prog insertRE := by
  intro xs σ; simp only [insertRE]; split
  · rename_i es s t x
    intro hc
    simp only [Bool.and_eq_true] at hc
    obtain ⟨h1, h2, h3, h4⟩ := hc
    have h3 := lenM_of h3
    exact pcall_of (.cons (wk_cks t h1 h2) (.refl _)) (insertR_c _ x (by simpa using h3) (ckM_of h4)) (by simp only [noOutL, AVal.noOut, ckv_noOut, Bool.and_true]) (by simp only [noTokL, AVal.noTok, ckv_noTok, Bool.and_true, Tag.below]) (by simp only [noOutL, AVal.noOut, ckv_noOut, Bool.and_true]) (by simp only [noTokL, AVal.noTok, ckv_noTok, Bool.and_true, Tag.below])
  · trivial
theorem removeR_c (l : List Ck) (x : Int) (hl : l.length ≤ 1000000) (hm : ∀ c ∈ l, c.2.1.length ≤ 1000000) :
    ACall Try.prog 18 [.slice (ckv l) 4 .ro, .int .i64 x] Sto.empty fun r _ => Wk r (.tuple [.slice (ckv (remK l x).1) 4 .ro, .int .i64 (remK l x).2]) := by
  refine removeR_i l x _ (.of [rightRE, hasE, withoutE] rfl ⟨rightR_ok, has_ok, without_ok, trivial⟩) ?_
  have hn : (ckv l).length = l.length := ckv_length l
  have hC := conds hl hm
  simp only [hold_eq, map_ckOf, map_intOf_iv]
  refine gb_by hC (brV_by (fun h => ?_) (fun h => ?_))
  · have h : rightC l = false := by simpa using h
    have e : remK l x = ([], 100) := by unfold remK; rw [if_neg (by rw [h]; simp)]
    rw [e]; exact tup_nil _
  have hR : rightC l = true := by simpa using h
  obtain ⟨p, hG, rfl⟩ := good_right hR
  have hpl := mkC_length p
  refine loopV_intro (α := Nat) (fun i => removeRL_S (mkC p) x i) (fun i => i ≤ (mkC p).length ∧ ∀ j (hj : j < p.length), j < i → x ∉ p[j].2) (fun i => (mkC p).length - i) ?_ 0 ⟨Nat.zero_le _, fun j _ h => by omega⟩
  rintro i ⟨g1, g2⟩ L hL
  refine Eq.mpr (removeRL_r (mkC p) x i L _) ?_
  simp only [hold_eq]
  refine brV_by (fun h => ?_) (fun h => ?_)
  · have hil : i < (mkC p).length := by have := of_decide_eq_true h; omega
    have hip : i < p.length := by omega
    have hci := mkC_get p i hip
    have h4 := hG.len _ (List.getElem_mem hip)
    have hiv : (iv p[i].2).length = p[i].2.length := iv_length _
    rw [elemAt_ckv _ i hil, hci]
    refine gb_by (dt (by omega)) (gb_by rfl ?_)
    simp only [ckC, List.getD_cons_zero, List.getD_cons_succ, AVal.intOf, AVal.elems, AVal.boolOf, map_intOf_iv]
    refine gb_by (and_tt (iv_isI64 _) (lenOk_mk (by omega))) (brV_by (fun h => ?_) (fun h => ?_))
    · have h : p[i].2.contains x = false := by simpa using h
      refine toCut (Eq.mpr (removeRI_r (mkC p) x i _) ?_)
      rw [i64_succ hil (by omega)]
      refine hL (i + 1) ⟨hil, fun j hj hji => ?_⟩ (by omega)
      rcases Nat.lt_or_ge j i with h9 | h9
      · exact g2 j hj h9
      · obtain rfl : j = i := by omega
        intro hm; rw [List.contains_iff_mem.2 hm] at h; cases h
    · have h : p[i].2.contains x = true := by simpa using h
      have hmem : x ∈ p[i].2 := List.contains_iff_mem.1 h
      have hplc := mem_place hG hip hmem
      have hgd := getD_mkC p i hip
      have hI : remK (mkC p) x = if 0 < (remS p[i].2 x).length ∨ i = 0 then ([(p[i].1, remS p[i].2 x, (p.getD (i + 1) (0, [])).1, false)], 0)
          else ([(((mkC p).getD (i - 1) ck0).1, ((mkC p).getD (i - 1) ck0).2.1, (p.getD (i + 1) (0, [])).1, ((mkC p).getD (i - 1) ck0).2.2.2), (p[i].1, [], 0, true)], 0) := by
        unfold remK
        rw [if_pos hR, hplc]
        simp only [hgd]
        rw [if_pos h]
        rfl
      refine toCut (Eq.mpr (removeRA_r (mkC p) x i (p[i].1, p[i].2, (p.getD (i + 1) (0, [])).1, false) _) ?_)
      intro z hz
      have hz : z = remS p[i].2 x := by rw [hz, map_intOf_iv]; rfl
      have hzl : (iv z).length = z.length := iv_length z
      rw [← hz] at hI
      simp only [hold_eq]
      have keep : (0 < z.length ∨ i = 0) → Wk (.tuple [.slice [.agg [.int .i64 p[i].1, .slice (iv z) 1 .ro, .int .i64 (p.getD (i + 1) (0, [])).1, .bool false]] 4 .full, .int .i64 0]) (.tuple [.slice (ckv (remK (mkC p) x).1) 4 .ro, .int .i64 (remK (mkC p) x).2]) := fun hk => by
        rw [hI, if_pos hk]
        exact tup_of (by simp [ckOf, AVal.intOf]) (by simp [ckIs, okW_same])
      refine gb_by (and_tt (iv_isI64 _) (lenM_mk (by show (iv p[i].2).length ≤ _; omega))) (brV_by' (fun h => ?_) (fun h => keep (.inl (by have := of_decide_eq_true h; omega))))
      have hz0 : ¬ 0 < z.length := by have := of_decide_eq_false h; omega
      refine brV_by (fun h => ?_) (fun h => ?_)
      · have h : ((i : Int) == 0) = true := h
        exact keep (.inr (by have : (i : Int) = 0 := by simpa using h
                             omega))
      have hi0 : i ≠ 0 := by
        have h : ((i : Int) == 0) = false := h
        have : ¬ (i : Int) = 0 := by simpa using h
        omega
      have hw : IntKind.i64.wrap ((i : Int) - 1) = ((i - 1 : Nat) : Int) := by rw [wrap_i64 (by omega) (by omega)]; omega
      have hlt1 : i - 1 < (mkC p).length := by omega
      have hgd1 := getD_mkC p (i - 1) (by omega)
      have hget1 := mkC_get p (i - 1) (by omega)
      rw [hw, elemAt_ckv _ (i - 1) hlt1, hget1]
      rw [hI, if_neg (by omega), hgd1]
      refine gb_by (dt (by omega)) (gb_by rfl (gb_by (dt (by omega)) (gb_by rfl ?_)))
      exact tup_of (ls := [.agg [.int .i64 p[i - 1].1, .slice (iv p[i - 1].2) 1 .ro, .int .i64 (p.getD (i + 1) (0, [])).1, .bool false], .agg [.int .i64 p[i].1, .slice [] 0 .nil, .int .i64 0, .bool true]]) (by simp [ckOf, AVal.intOf]) (by simp [ckIs, okW_same, okW])
  · have hi' : i = (mkC p).length := by have := of_decide_eq_false h; omega
    have e : remK (mkC p) x = ([], 101) := by
      have hno : (((mkC p).getD (placeC (mkC p) x) ck0).2.1).contains x = false := by
        by_cases hlt : placeC (mkC p) x < p.length
        · rw [getD_mkC p _ hlt]
          have := g2 _ hlt (by omega)
          cases hh : p[placeC (mkC p) x].2.contains x with
          | false => rfl
          | true => exact (this (List.contains_iff_mem.1 hh)).elim
        · rw [List.getD_eq_getElem?_getD, List.getElem?_eq_none (by omega)]; rfl
      unfold remK
      rw [if_pos hR]
      simp only [hno]
      rfl
    rw [e]
    exact leaveTo (toCut (Eq.mpr (removeRF_r _) (tup_nil _)))
theorem removeR_ok : EntOk Try.prog removeRE := by
  intro xs σ; simp only [removeRE]; split
  · rename_i es s t x
    intro hc
    simp only [Bool.and_eq_true] at hc
    obtain ⟨h1, h2, h3, h4⟩ := hc
    have h3 := lenM_of h3
    exact pcall_of (.cons (wk_cks t h1 h2) (.refl _)) (removeR_c _ x (by simpa using h3) (ckM_of h4)) (by simp only [noOutL, AVal.noOut, ckv_noOut, Bool.and_true]) (by simp only [noTokL, AVal.noTok, ckv_noTok, Bool.and_true, Tag.below]) (by simp only [noOutL, AVal.noOut, ckv_noOut, Bool.and_true]) (by simp only [noTokL, AVal.noTok, ckv_noTok, Bool.and_true, Tag.below])
  · trivial
end Go.Proofs.Ytjdjecaclbdhhaa
end

section
namespace Go.Proofs.Ytjdjecaclbdhhaa
open Go.AL
set_option linter.unusedSimpArgs false
set_option linter.unusedVariables false
set_option maxHeartbeats 2000000
set_option maxRecDepth 20000

theorem smallC_iff {l : List Ck} : smallC l = true ↔ l.length ≤ 40 ∧ ∀ c ∈ l, c.2.1.length ≤ 20 := by simp [smallC]
theorem small_c (l : List Ck) (hl : l.length ≤ 140737488351232) : ACall Try.prog 14 [.slice (ckv l) 4 .ro] Sto.empty fun v _ => Wk v (.bool (smallC l)) := by
  refine small_i l _ (.of_none rfl) ?_
  have hn : (ckv l).length = l.length := ckv_length l
  have no : ¬ (l.length ≤ 40 ∧ ∀ c ∈ l, c.2.1.length ≤ 20) → Wk (.bool false) (.bool (smallC l)) := fun h => by
    have : smallC l = false := by rw [← Bool.not_eq_true, smallC_iff]; exact h
    rw [this]; exact Wk.refl _
  simp only [hold_eq]
  refine brV_by (fun h => no fun hh => by have := of_decide_eq_true h; have := hh.1; omega) (fun h => ?_)
  have h40 : l.length ≤ 40 := by have := of_decide_eq_false h; omega
  refine loopV_intro (α := Nat) (fun i => smallL_S l i) (fun i => i ≤ l.length ∧ ∀ c ∈ l.take i, c.2.1.length ≤ 20) (fun i => l.length - i) ?_ 0 ⟨Nat.zero_le _, fun x hx => by simp at hx⟩
  rintro i ⟨hi, hpre⟩ L hL
  refine Eq.mpr (smallL_r l i L _) ?_
  simp only [hold_eq]
  refine brV_by (fun h => ?_) (fun h => ?_)
  · have hlt : i < l.length := by have := of_decide_eq_true h; omega
    have hiv : (iv l[i].2.1).length = l[i].2.1.length := iv_length _
    have ee : AVal.elems (List.getD (List.drop 1 (ckC l[i])) 0 .undef) = iv l[i].2.1 := rfl
    rw [i64_succ hlt (by omega), elemAt_ckv l i hlt, ee]
    refine gb_by (dt (by omega)) (gb_by rfl (brV_by (fun h => no fun hh => ?_) (fun h => ?_)))
    · have := of_decide_eq_true h
      have := hh.2 _ (List.getElem_mem hlt)
      omega
    · have h20 : l[i].2.1.length ≤ 20 := by have := of_decide_eq_false h; omega
      refine hL (i + 1) ⟨hlt, fun c hc => ?_⟩ (by omega)
      rw [List.take_succ_eq_append_getElem hlt] at hc
      rcases List.mem_append.1 hc with h1 | h1
      · exact hpre c h1
      · rw [List.mem_singleton] at h1; rw [h1]; exact h20
  · have hge : i = l.length := by have := of_decide_eq_false h; omega
    rw [hge, List.take_length] at hpre
    have : smallC l = true := smallC_iff.2 ⟨h40, hpre⟩
    rw [this]
    exact leaveTo (toCut (Eq.mpr (smallF_r _) (Wk.refl _)))
theorem small_ok : EntOk Try.prog smallE := by
  intro xs σ; simp only [smallE]; split
  · rename_i es s t
    intro hc
    simp only [Bool.and_eq_true] at hc
    obtain ⟨h1, h2, h3⟩ := hc
    exact pcall_of (.cons (wk_cks t h1 h2) (.refl _)) (by rw [hold_eq]; exact small_c _ (by simpa using lenOk_of h3)) (by simp only [noOutL, AVal.noOut, ckv_noOut, Bool.and_true]) (by simp only [noTokL, AVal.noTok, ckv_noTok, Bool.and_true, Tag.below]) rfl rfl
  · trivial
theorem own_oneC (o : List Ck) (x : Ck) : Sto.setOwn (Sto.pushOwn Sto.empty (ckv o).length) 0 ((ckv o).length + 1) = Sto.pushOwn Sto.empty (ckv (o ++ [x])).length := by
  rw [setOwn_e1, ← ckv_one, List.length_append]; rfl
theorem copied_c (l : List Ck) (hl : l.length ≤ 1000000) (hm : ∀ c ∈ l, c.2.1.length ≤ 1000000) : ACall Try.prog 15 [.slice (ckv l) 4 .ro] Sto.empty fun v _ => Wk v (.slice (ckv l) 4 .ro) := by
  refine copied_i l _ (.of_none rfl) ?_
  have hn : (ckv l).length = l.length := ckv_length l
  refine loopV_intro (α := List Ck × Nat) (fun s => copiedL_S l s.1 s.2) (fun s => s.2 ≤ l.length ∧ s.1 = l.take s.2) (fun s => l.length - s.2) ?_ ([], 0) ⟨Nat.zero_le _, rfl⟩
  rintro ⟨o, i⟩ ⟨g1, g2⟩ L hL
  simp only at g1 g2
  have hov : (ckv o).length = o.length := ckv_length o
  have hol : o.length = i := by rw [g2, List.length_take]; omega
  refine Eq.mpr (copiedL_r l o i L _) ?_
  simp only [hold_eq]
  refine brV_by (fun h => ?_) (fun h => ?_)
  · have hlt : i < l.length := by have := of_decide_eq_true h; omega
    have hcm := hm _ (List.getElem_mem hlt)
    have hiv : (iv l[i].2.1).length = l[i].2.1.length := iv_length _
    have ee : AVal.elems (List.getD (ckC l[i]) 1 .undef) = iv l[i].2.1 := rfl
    have e2 : ckv o ++ [.agg [.int .i64 (AVal.intOf (List.getD (ckC l[i]) 0 .undef)), .slice (iv l[i].2.1) 1 .ro, .int .i64 (AVal.intOf (List.getD (ckC l[i]) 2 .undef)), .bool (AVal.boolOf (List.getD (ckC l[i]) 3 .undef))]] = ckv (o ++ [l[i]]) := ckv_one o l[i]
    rw [i64_succ hlt (by omega), elemAt_ckv l i hlt, ee]
    refine gb_by (dt (by omega)) (gb_by rfl (gb_by (dt ⟨dt ⟨trivial, by omega, by omega⟩, trivial⟩) (gb_by (dt ⟨dt ⟨trivial, trivial, by omega, by omega⟩, trivial⟩) ?_)))
    rw [own_oneC o l[i], e2]
    exact hL (o ++ [l[i]], i + 1) ⟨hlt, by simp only; rw [g2, List.take_succ_eq_append_getElem hlt]⟩ (by simp only; omega)
  · have hge : i = l.length := by have := of_decide_eq_false h; omega
    rw [hge, List.take_length] at g2
    rw [← g2]
    exact leaveTo (toCut (Eq.mpr (copiedF_r _ _) (Wk.ro _ _ _)))
theorem copied_ok : EntOk Try.prog copiedE := by
  intro xs σ; simp only [copiedE]; split
  · rename_i es s t
    intro hc
    simp only [Bool.and_eq_true] at hc
    obtain ⟨h1, h2, h3, h4⟩ := hc
    exact pcall_of (.cons (wk_cks t h1 h2) (.refl _)) (copied_c _ (by simpa using lenM_of h3) (ckM_of h4)) (by simp only [noOutL, AVal.noOut, ckv_noOut, Bool.and_true]) (by simp only [noTokL, AVal.noTok, ckv_noTok, Bool.and_true, Tag.below]) (by simp only [AVal.noOut, ckv_noOut]) (by simp only [AVal.noTok, ckv_noTok, Tag.below, Bool.and_true])
  · trivial
theorem awake_c : ACall Try.prog 8 [] Sto.empty fun r _ => Wk r (.bool true) := by
  refine awake_i _ (.of [insertE, sameE] rfl ⟨insert_ok, same_ok, trivial⟩) ?_
  intro y hy
  subst hy
  refine gb_by (and_tt (lenM_mk (by decide)) rfl) ?_
  intro z hz
  subst hz
  have m1 : ((ckv [((0 : Int), [(5 : Int)], (0 : Int), false)]).all ckIs && (lenM (ckv [((0 : Int), [(5 : Int)], (0 : Int), false)]).length && (ckv [((0 : Int), [(5 : Int)], (0 : Int), false)]).all ckM)) = true := conds (by decide) (by simp)
  have m2 : ((ckv [((0 : Int), [(1 : Int), 2, 3], (1 : Int), false), (1, [4, 5], 0, false)]).all ckIs && (lenM (ckv [((0 : Int), [(1 : Int), 2, 3], (1 : Int), false), (1, [4, 5], 0, false)]).length && (ckv [((0 : Int), [(1 : Int), 2, 3], (1 : Int), false), (1, [4, 5], 0, false)]).all ckM)) = true := conds (by decide) (by simp)
  simp only [hold_eq, map_ckOf, beq_self_eq_true, brV_tt]
  refine gb_by (and_tt (lenM_mk (by decide)) ?_) (gb_by m1 (gb_by m2 (Wk.refl _)))
  simp [ckM, ckIs, ckOf, okW, isI64, lenM]
theorem awake_ok : EntOk Try.prog awakeE := by
  intro xs σ; simp only [awakeE]; split
  · intro hc
    exact pcall_of (.refl _) (by rw [hold_eq]; exact awake_c) rfl rfl rfl rfl
  · trivial
theorem fits_ck {a : AVal} (h : Fits (.agg [.int .i64, .slice (.int .i64) 1 8, .int .i64, .bool]) a) : ∃ c : Ck, a = ckV c ∧ c.2.1.length ≤ 140737488351232 / 8 := by
  obtain ⟨cs, rfl, a1, t1, rfl, h1, a2, t2, rfl, h2, a3, t3, rfl, h3, a4, t4, rfl, h4, rfl⟩ := h
  obtain ⟨n, rfl, _, _⟩ := h1
  obtain ⟨l2, rfl, b2, _⟩ := fits_iv h2
  obtain ⟨m, rfl, _, _⟩ := h3
  obtain ⟨b, rfl⟩ := h4
  exact ⟨(n, l2, m, b), rfl, by show l2.length ≤ _; omega⟩
theorem fits_ckv {b : Nat} {a : AVal} (h : Fits (.slice (.agg [.int .i64, .slice (.int .i64) 1 8, .int .i64, .bool]) 4 b) a) : ∃ l : List Ck, a = .slice (ckv l) 4 .ro ∧ l.length * b ≤ 140737488351232 := by
  obtain ⟨es, rfl, h1, h2⟩ := h
  obtain ⟨ls, rfl, hx⟩ := map_of (f := ckV) (P := fun c => c.2.1.length ≤ 140737488351232 / 8) fun e he => by
    obtain ⟨s, h3, h4⟩ := fits_ck (h2 e he)
    exact ⟨s, h3, h4⟩
  exact ⟨ls, rfl, by simpa using h1⟩
/-! ### What laying and taking out hand back -/
theorem insK_le (l : List Ck) (x : Int) : (insK l x).1.length ≤ 2 ∧ ∀ c ∈ (insK l x).1, c.2.1.length ≤ 4 := by
  by_cases hR : rightC l = true
  · obtain ⟨p, hG, rfl⟩ := good_right hR
    by_cases hA : x < 0 ∨ 1099511627776 ≤ x
    · have e : insK (mkC p) x = ([], 2) := by unfold insK; rw [if_pos hR, if_pos hA]
      rw [e]; simp
    · by_cases hm : x ∈ idsP p
      · rw [insK_twice hG (by omega) (by omega) hm]; simp
      · obtain ⟨ch, p', e, ⟨h1, h2, h3⟩, _⟩ := insK_apply hG (show 0 ≤ x by omega) (by omega) hm
        rw [e]; exact ⟨h2, h3⟩
  · have e : insK l x = ([], 100) := by unfold insK; rw [if_neg hR]
    rw [e]; simp
theorem remK_none {p : List Pt} (hG : GoodC p) {x : Int} (hm : x ∉ idsP p) : remK (mkC p) x = ([], 101) := by
  have hno : (((mkC p).getD (placeC (mkC p) x) ck0).2.1).contains x = false := by
    by_cases hlt : placeC (mkC p) x < p.length
    · rw [getD_mkC p _ hlt]
      cases hh : p[placeC (mkC p) x].2.contains x with
      | false => rfl
      | true => exact (hm (mem_idsP.2 ⟨_, List.getElem_mem hlt, List.contains_iff_mem.1 hh⟩)).elim
    · rw [List.getD_eq_getElem?_getD, List.getElem?_eq_none (by rw [mkC_length]; omega)]; rfl
  unfold remK
  rw [if_pos hG.right]
  simp only [hno]
  rfl
theorem remK_le (l : List Ck) (x : Int) : (remK l x).1.length ≤ 2 ∧ ∀ c ∈ (remK l x).1, c.2.1.length ≤ 4 := by
  by_cases hR : rightC l = true
  · obtain ⟨p, hG, rfl⟩ := good_right hR
    by_cases hm : x ∈ idsP p
    · obtain ⟨ch, p', e, ⟨h1, h2, h3⟩, _⟩ := remK_apply hG hm
      rw [e]; exact ⟨h2, h3⟩
    · rw [remK_none hG hm]; simp
  · have e : remK l x = ([], 100) := by unfold remK; rw [if_neg hR]
    rw [e]; simp
end Go.Proofs.Ytjdjecaclbdhhaa
end

section
set_option linter.unusedVariables false
set_option linter.unusedSimpArgs false
set_option maxRecDepth 20000
set_option maxHeartbeats 2000000
namespace Go.Proofs.Ytjdjecaclbdhhaa
open Go.AL Ym

theorem numB_enc5 {n : Int} (h : fitsN n = true) : numB (enc5 n) = n := by
  have h : 0 ≤ n ∧ n < 1099511627776 := of_decide_eq_true h
  have t : ∀ m : Int, ((UInt8.ofNat (m % 256).toNat).toNat : Int) = m % 256 := fun m => by
    have h0 : 0 ≤ m % 256 := Int.emod_nonneg _ (by decide)
    have h1 : m % 256 < 256 := Int.emod_lt_of_pos _ (by decide)
    rw [UInt8.toNat_ofNat']
    omega
  simp only [numB, enc5, List.foldl_cons, List.foldl_nil, t]
  omega
theorem enc5_len (n : Int) : (enc5 n).length = 5 := rfl
theorem encL_cons (n : Int) (l : List Int) : encL (n :: l) = enc5 n ++ encL l := rfl
theorem nums_enc : ∀ (l r : List Int), l.all fitsN = true → nums l.length (encL (l ++ r)) = l
  | [], _, _ => rfl
  | n :: l, r, h => by
    simp only [List.all_cons, Bool.and_eq_true] at h
    rw [List.length_cons, List.cons_append, encL_cons, nums, List.take_left' (enc5_len n), List.drop_left' (enc5_len n), numB_enc5 h.1, nums_enc l r h.2]
theorem encL_append (a b : List Int) : encL (a ++ b) = encL a ++ encL b := by simp [encL]
theorem parse_bytes (c : Ck) (h : bytesOk c = true) : parseK c.1 (bytesK c).1 = (c, 0) ∧ (bytesK c).1.length ≤ 25 := by
  obtain ⟨no, ids, nx, b⟩ := c
  simp only [bytesOk, Bool.and_eq_true, Bool.not_eq_true', decide_eq_true_eq, List.all_append, List.all_cons, List.all_nil, Bool.and_true] at h
  obtain ⟨rfl, h4, h5, h6⟩ := h
  have hb : (bytesK (no, ids, nx, false)).1 = encL (ids ++ [nx]) := by
    unfold bytesK
    rw [if_pos (by simp only [bytesOk, Bool.and_eq_true, Bool.not_eq_true', decide_eq_true_eq, List.all_append, List.all_cons, List.all_nil, Bool.and_true]; exact ⟨trivial, h4, h5, h6⟩)]
  rw [hb]
  have hl : (encL (ids ++ [nx])).length = 5 * (ids.length + 1) := by rw [encL_len, List.length_append]; rfl
  have hok : parseOk (encL (ids ++ [nx])) = true := decide_eq_true ⟨fun e => by rw [e] at hl; simp at hl, by omega, by omega⟩
  refine ⟨?_, by omega⟩
  unfold parseK
  rw [if_pos hok, hl, show 5 * (ids.length + 1) / 5 - 1 = ids.length by omega, nums_enc ids [nx] h5, show 5 * (ids.length + 1) - 5 = 5 * ids.length by omega]
  have e : (encL (ids ++ [nx])).drop (5 * ids.length) = enc5 nx := by
    rw [encL_append, List.drop_left' (encL_len ids)]
    show enc5 nx ++ [] = _
    rw [List.append_nil]
  rw [e, numB_enc5 h6]
theorem parse_ids (no : Int) (s : List UInt8) (h : s.length ≤ 500) : (parseK no s).1.2.1.length ≤ 1000000 := by
  unfold parseK
  split
  · show (nums (s.length / 5 - 1) s).length ≤ _
    rw [nums_len]; omega
  · exact Nat.zero_le _
theorem ckM_at (c : Ck) (h : c.2.1.length ≤ 1000000) : ckM (.agg [.int .i64 c.1, .slice (iv c.2.1) 1 .ro, .int .i64 c.2.2.1, .bool c.2.2.2]) = true := ckM_mk h
theorem ckIs_at (c : Ck) : [AVal.agg [.int .i64 c.1, .slice (iv c.2.1) 1 .ro, .int .i64 c.2.2.1, .bool c.2.2.2]].all ckIs = true := ckv_is [c]
theorem ckM1_at (c : Ck) (h : c.2.1.length ≤ 1000000) : [AVal.agg [.int .i64 c.1, .slice (iv c.2.1) 1 .ro, .int .i64 c.2.2.1, .bool c.2.2.2]].all ckM = true := ckM_all (l := [c]) (by simpa using h)
theorem bytes_law (xs : List AVal) (h : FitsL [.agg [.int .i64, .slice (.int .i64) 1 8, .int .i64, .bool], .int .i64, .str] xs) :
    ACall Try.prog 5 xs Sto.empty fun v _ => v = .bool true := by
  obtain ⟨a1, t1, rfl, f1, a2, t2, rfl, f2, a3, t3, rfl, f3, rfl⟩ := h
  obtain ⟨c, rfl, hl⟩ := fits_ck f1
  obtain ⟨no, rfl, _, _⟩ := f2
  obtain ⟨s, rfl, _⟩ := f3
  have ho : OrcOk Try.prog cLawB := .of [awakeE, parseE, parseRE, sameE, bytesE, bytesRE] rfl ⟨awake_ok, parse_ok, parseR_ok, same_ok, bytes_ok, bytesR_ok, trivial⟩
  refine lawB_i c no s _ ho ?_
  have hn : (iv c.2.1).length = c.2.1.length := iv_length _
  simp only [hold_eq]
  refine brV_by' (fun _ => ?_) (fun h => by cases h)
  refine brV_by' (fun h50 => ?_) (fun _ => trivial)
  have h50 : c.2.1.length ≤ 50 := by have := of_decide_eq_false h50; omega
  refine brV_by (fun _ => trivial) (fun h500 => ?_)
  have h500 : s.length ≤ 500 := by have := of_decide_eq_false h500; omega
  have hM : ∀ n : Nat, n ≤ 1000000 → lenM n = true := fun n h => lenM_mk h
  have hpi := parse_ids no s h500
  have fin : cutV (vc Try.prog cLawB lawBF_C (endK Try.prog Try.f5.results.toList fun v _ => v = .bool true)) (lawBF_S c) := by
    refine toCut (Eq.mpr (lawBF_r c _) ?_)
    intro y hy
    rw [map_intOf_iv] at hy
    refine gb_by (ckM_at c (by omega)) ?_
    intro y1 hy1
    rw [map_intOf_iv] at hy1
    obtain rfl : y1 = y := by rw [hy, hy1]
    simp only [hold_eq, beq_self_eq_true, Bool.not_true]
    refine gb_by (ckM_at c (by omega)) (brV_by' (fun _ => brV_by (fun h => ?_) (fun _ => brV_by (fun h => ?_) (fun h => ?_))) (fun h => by cases h))
    · cases h
    · have hk : bytesOk c = false := by
        cases hk : bytesOk c with
        | false => rfl
        | true =>
          have : y1.2 = 0 := by rw [hy1]; show (bytesK c).2 = 0; unfold bytesK; rw [if_pos hk]
          rw [this] at h; cases h
      have : y1.2 = 2 := by rw [hy1]; show (bytesK c).2 = 2; unfold bytesK; rw [hk]; rfl
      show AVal.bool (y1.2 == 2) = .bool true
      rw [this]; rfl
    · have hk : bytesOk c = true := by
        cases hk : bytesOk c with
        | true => rfl
        | false =>
          have : y1.2 = 2 := by rw [hy1]; show (bytesK c).2 = 2; unfold bytesK; rw [hk]; rfl
          rw [this] at h; cases h
      obtain ⟨q1, q2⟩ := parse_bytes c hk
      have hy1' : y1.1 = (bytesK c).1 := by rw [hy1]
      intro z hz
      rw [hy1', q1] at hz
      subst hz
      rw [hy1']
      refine gb_by (hM _ (by omega)) (brV_by (fun _ => ?_) (fun h => by cases h))
      refine gb_by (and_tt (ckIs_at c) (and_tt (ckIs_at c) (and_tt (hM 1 (by decide)) (ckM1_at c (by omega))))) ?_
      simp
  intro y hy
  refine gb_by (hM _ (by omega)) ?_
  intro y1 hy1
  obtain rfl : y1 = y := by rw [hy, hy1]
  rw [← hy1] at hpi
  simp only [beq_self_eq_true, Bool.not_true]
  have hC : ([AVal.agg [.int .i64 y1.1.1, .slice (iv y1.1.2.1) 1 .ro, .int .i64 y1.1.2.2.1, .bool y1.1.2.2.2]].all ckIs && ([AVal.agg [.int .i64 y1.1.1, .slice (iv y1.1.2.1) 1 .ro, .int .i64 y1.1.2.2.1, .bool y1.1.2.2.2]].all ckIs && (lenM 1 && [AVal.agg [.int .i64 y1.1.1, .slice (iv y1.1.2.1) 1 .ro, .int .i64 y1.1.2.2.1, .bool y1.1.2.2.2]].all ckM))) = true :=
    and_tt (ckIs_at _) (and_tt (ckIs_at _) (and_tt (hM 1 (by decide)) (ckM1_at _ hpi)))
  refine gb_by (hM _ (by omega)) (brV_by' (fun _ => brV_by (fun h => brV_by' (fun h2 => ?_) (fun h2 => ?_)) (fun h => ?_)) (fun h => by cases h))
  · refine gb_by hC (brV_by (fun h => by cases h) (fun _ => fin))
  · exfalso
    cases hk : parseOk s with
    | true =>
      have : y1.2 = 0 := by rw [hy1]; unfold parseK; rw [if_pos hk]
      rw [this] at h; cases h
    | false =>
      have : y1.2 = 10 := by rw [hy1]; unfold parseK; rw [hk]; rfl
      rw [this] at h2; cases h2
  · refine gb_by hC (brV_by (fun h => by cases h) (fun _ => fin))
end Go.Proofs.Ytjdjecaclbdhhaa
end
