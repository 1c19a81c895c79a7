/-
  Seat 12 (limbo): what is told of calls.
-/
import Derived.Test.YtakidnohmfebmaaLm
set_option linter.unusedVariables false
namespace Go.Proofs.Ytakidnohmfebmaa
open Go.AL

/-- A limbo's permission, row, map. -/
def limAt (σ : Sto) : Option (Nat × List AVal × List (AVal × AVal)) :=
  match σ.obj 1, σ.obj 0 with
  | some (.cells [.slice row _ (.own N), .map (.out 0)]), some (.map es) => some (N, row, es)
  | _, _ => none
def valOf (es : List (AVal × AVal)) : List (Key × Int) := es.map fun x => (keyOf x.1, x.2.intOf)
noncomputable def isLim (σ : Sto) (N : Nat) (row : List Key) (m : List (Key × Int)) : Bool := hold (@decide (σ = limS N row m) (Classical.propDecidable _))
noncomputable def isMv (es : List (AVal × AVal)) : Bool := hold (@decide (es = mv (valOf es)) (Classical.propDecidable _))
noncomputable def isNew (σ : Sto) : Bool := hold (@decide (σ = Sto.empty) (Classical.propDecidable _))
/-- Retire, key by key: the permission's number, the row, the map. -/
def retStep (e : Int) (x : Nat × List Key × List (Key × Int)) (k : Key) : Nat × List Key × List (Key × Int) :=
  match epochOf x.2.2 k with
  | some old => (x.1 + 2, x.2.1.filter (fun y => !(y == k)) ++ [k], putM k (max old e) x.2.2)
  | none => (x.1, x.2.1 ++ [k], putM k e x.2.2)
def retN (e : Int) (ks : List Key) (x : Nat × List Key × List (Key × Int)) : Nat × List Key × List (Key × Int) := ks.foldl (retStep e) x
def delAll (ks : List Key) (m : List (Key × Int)) : List (Key × Int) := ks.foldl (fun m k => delM k m) m
def below (m : List (Key × Int)) (least : Int) (k : Key) : Bool := decide ((epochOf m k).getD 0 < least)

noncomputable section
def keyE : Ent := (20, fun xs _ => match xs with
  | [.int .i64 n] => some (.pure true (.agg [.int .i64 1, .int .i64 n, .int .i64 0, .str []]))
  | _ => none)
def indexE : Ent := (30, fun xs _ => match xs with
  | [.slice es s t, .agg [.int .i64 a, .int .i64 b, .int .i64 c, .str d]] => some (.nm ((es.map keyOf).contains (a, b, c, d)) fun y => .nm (if y then ((es.map keyOf).idxOf (a, b, c, d) : Int) else -1) fun n => .pure (okW 4 s es && (es.all keyIs && hold (decide (es.length ≤ 140737488351232)))) (.int .i64 n))
  | _ => none)
def containsE : Ent := (25, fun xs _ => match xs with
  | [.slice es s t, .agg [.int .i64 a, .int .i64 b, .int .i64 c, .str d]] => some (.pure (okW 4 s es && (es.all keyIs && hold (decide (es.length ≤ 140737488351232)))) (.bool (hold ((es.map keyOf).contains (a, b, c, d)))))
  | _ => none)
def ret1E : Ent := (22, fun xs _ => match xs with
  | [.agg [.int .i64 a, .int .i64 b, .int .i64 c, .str d], .iptr [.int .i64 a', .int .i64 b', .int .i64 c', .str d']] => some (.pure true (.bool (hold (((a, b, c, d) : Key) == (a', b', c', d')))))
  | _ => none)
def take1E : Ent := (23, fun xs σ => match xs, σ.obj 1, σ.obj 0 with
  | [.agg [.int .i64 a, .int .i64 b, .int .i64 c, .str d], .iptr [.ptr (.out 1) 0], .iptr [.int .i64 least]], some (.cells [r, .map (.out 0)]), some (.map es) => some (.full (isMv es) (.bool (hold (below (valOf es) least (a, b, c, d)))) σ)
  | _, _, _ => none)
def back1E : Ent := (24, fun xs _ => match xs with
  | [.agg [.int .i64 a, .int .i64 b, .int .i64 c, .str d], .iptr [.slice es s t]] => some (.pure (okW 4 s es && (es.all keyIs && hold (decide (es.length ≤ 140737488351232)))) (.bool (hold ((es.map keyOf).contains (a, b, c, d)))))
  | _ => none)
/-- What is taken out of a row by a closure. -/
def outP (m : List (Key × Int)) : AVal → Option (Bool × (Key → Bool))
  | .func (.func g) [] cs =>
    match Nat.beq g 22, Nat.beq g 23, Nat.beq g 24, cs with
    | true, _, _, [.iptr [.int .i64 a, .int .i64 b, .int .i64 c, .str d]] => some (true, fun k => k == (a, b, c, d))
    | false, true, _, [.iptr [.ptr (.out 1) 0], .iptr [.int .i64 least]] => some (true, below m least)
    | false, false, true, [.iptr [.slice es s t]] => some (okW 4 s es && (es.all keyIs && hold (decide (es.length ≤ 140737488351232))), fun k => (es.map keyOf).contains k)
    | _, _, _, _ => none
  | _ => none
def outE : Ent := (21, fun xs σ => match xs, limAt σ with
  | [.ptr (.out 1) 0, f], some (N, row, es) =>
    match outP (valOf es) f with
    | some (c, p) => some (.nm ((row.map keyOf).filter p) fun gone => .nm ((row.map keyOf).filter fun k => !p k) fun left => .full (c && (isLim σ N (row.map keyOf) (valOf es) && hold (decide (row.length ≤ 1000000000)))) (.slice (kv gone) 4 .ro) (limS (N + 2) left (valOf es)))
    | none => none
  | _, _ => none)
def newE : Ent := (7, fun xs σ => match xs with
  | [] => some (.full (isNew σ) (.ptr (.out 1) 0) (limS 0 [] []))
  | _ => none)
def lenE : Ent := (10, fun xs σ => match xs, limAt σ with
  | [.ptr (.out 1) 0], some (N, row, es) => some (.full true (.int .i64 row.length) σ)
  | _, _ => none)
def epochE : Ent := (9, fun xs σ => match xs, limAt σ with
  | [.ptr (.out 1) 0, .agg [.int .i64 a, .int .i64 b, .int .i64 c, .str d]], some (N, row, es) => some (.nm (epochOf (valOf es) (a, b, c, d)) fun e => .full (isMv es) (.tuple [.int .i64 (e.getD 0), .bool (hold e.isSome)]) σ)
  | _, _ => none)
def retireE : Ent := (8, fun xs σ => match xs, limAt σ with
  | [.ptr (.out 1) 0, .int .i64 e, .slice ks s t], some (N, row, es) => some (.nm (retN e (ks.map keyOf) (N, row.map keyOf, valOf es)) fun x => .full (okW 4 s ks && (ks.all keyIs && (isLim σ N (row.map keyOf) (valOf es) && hold (decide (row.length + ks.length ≤ 1000000000))))) (.tuple []) (limS x.1 x.2.1 x.2.2))
  | _, _ => none)
def takeE : Ent := (11, fun xs σ => match xs, limAt σ with
  | [.ptr (.out 1) 0, .int .i64 least], some (N, row, es) => some (.nm ((row.map keyOf).filter (below (valOf es) least)) fun gone => .nm ((row.map keyOf).filter fun k => !below (valOf es) least k) fun left => .nm (delAll gone (valOf es)) fun m => .full (isLim σ N (row.map keyOf) (valOf es) && hold (decide (row.length ≤ 1000000000))) (.slice (kv gone) 4 .ro) (limS (N + 2) left m))
  | _, _ => none)
def backE : Ent := (12, fun xs σ => match xs, limAt σ with
  | [.ptr (.out 1) 0, .slice ks s t], some (N, row, es) => some (.nm ((row.map keyOf).filter fun k => (ks.map keyOf).contains k) fun gone => .nm ((row.map keyOf).filter fun k => !(ks.map keyOf).contains k) fun left => .nm (delAll gone (valOf es)) fun m => .full (okW 4 s ks && (ks.all keyIs && (isLim σ N (row.map keyOf) (valOf es) && (hold (decide (row.length ≤ 1000000000)) && hold (decide (ks.length ≤ 140737488351232)))))) (.int .i64 gone.length) (limS (N + 2) left m))
  | _, _ => none)
def sameE : Ent := (14, fun xs _ => match xs with
  | [.slice es s t, .slice fs s' t'] => some (.pure (okW 4 s es && (okW 4 s' fs && (es.all keyIs && (fs.all keyIs && hold (decide (es.length ≤ 140737488351232)))))) (.bool (hold (es.map keyOf == fs.map keyOf))))
  | _ => none)
def awakeE : Ent := (6, fun xs _ => match xs with | [] => some (.pure true (.bool true)) | _ => none)
end
end Go.Proofs.Ytakidnohmfebmaa
