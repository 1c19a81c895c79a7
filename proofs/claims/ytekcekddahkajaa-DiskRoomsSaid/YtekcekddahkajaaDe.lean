/-
  Seat 07 (disk): what is told of calls. A disk is object 0; its bytes bear permission 0, as long as nothing was cut.
-/
import Derived.Test.YtekcekddahkajaaH
import Derived.Test.YtekcekddahkajaaB0
set_option linter.unusedVariables false
namespace Go.Proofs.Ytekcekddahkajaa
open Go.AL

/-- A disk's room, how many bytes are safe, its bytes. -/
def dskAt (σ : Sto) : Option (Int × Int × List AVal × Nat × Tag) :=
  match σ.obj 0 with
  | some (.cells [.int .i64 r, .int .i64 s, .slice bs w t]) => some (r, s, bs, w, t)
  | _ => none
def dsk (σ : Sto) (r s : Int) (bs : List AVal) (t : Tag) : Sto := σ.set 0 (.cells [.int .i64 r, .int .i64 s, .slice bs 1 t])
def dskO (σ : Sto) (r s : Int) (bs : List AVal) : Sto := (dsk σ r s bs (.own 0)).setOwn 0 bs.length
def cutT : Tag → Tag
  | .nil => .nil
  | _ => .ro
def keepN (k s n : Int) : Int := s + min (max k 0) (n - s)

noncomputable section
def fitsB (r : Int) (bs es : List AVal) : Bool := hold (decide ((bs.length : Int) + (((es.map bytesOfV).flatten).length : Int) ≤ r))
def newE : Ent := (8, fun xs σ => match xs with
  | [.int .i64 r] => some (.full (hold (decide (0 ≤ r)) && hold (decide (r ≤ 1073741824))) (.tuple [.ptr (.out σ.nobj) 0, .int .i64 0]) ((σ.push (.cells [.int .i64 r, .int .i64 0, .slice [] 1 (.own σ.nown)])).pushOwn 0))
  | _ => none)
def leftE : Ent := (14, fun xs σ => match xs, dskAt σ with
  | [.ptr (.out 0) 0], some (r, s, bs, w, t) => some (.full (hold (decide (0 ≤ r)) && (hold (decide (r ≤ 1073741824)) && hold (decide ((bs.length : Int) ≤ r)))) (.int .i64 (r - bs.length)) σ)
  | _, _ => none)
def lenE : Ent := (13, fun xs σ => match xs, dskAt σ with
  | [.ptr (.out 0) 0], some (r, s, bs, w, t) => some (.full true (.int .i64 bs.length) σ)
  | _, _ => none)
def safeE : Ent := (15, fun xs σ => match xs, dskAt σ with
  | [.ptr (.out 0) 0], some (r, s, bs, w, t) => some (.full true (.int .i64 s) σ)
  | _, _ => none)
def flushE : Ent := (10, fun xs σ => match xs, dskAt σ with
  | [.ptr (.out 0) 0], some (r, s, bs, 1, t) => some (.full true (.int .i64 bs.length) (dsk σ r bs.length bs t))
  | _, _ => none)
def crashE : Ent := (11, fun xs σ => match xs, dskAt σ with
  | [.ptr (.out 0) 0, .int .i64 k], some (r, s, bs, 1, t) => some (.nm (keepN k s bs.length) fun n => .nm ((bs.map AL.byteOf).take n.toNat) fun l => .full (bs.all byteIs && (hold (decide (0 ≤ s)) && (hold (decide (s ≤ bs.length)) && hold (decide ((bs.length : Int) ≤ 1073741824))))) (.int .i64 n) (dsk σ r n (bw l) (cutT t)))
  | _, _ => none)
def cloneE : Ent := (20, fun xs _ => match xs with
  | [.slice es s t] => some (.nm (es.map AL.byteOf) fun l => .pure (okW 1 s es && (es.all byteIs && hold (decide (es.length ≤ 140737488351232)))) (.slice (bw l) 1 .ro))
  | _ => none)
def bytesE : Ent := (12, fun xs σ => match xs, dskAt σ with
  | [.ptr (.out 0) 0], some (r, s, bs, 1, t) => some (.nm (bs.map AL.byteOf) fun l => .full (bs.all byteIs && hold (decide ((bs.length : Int) ≤ 1073741824))) (.slice (bw l) 1 .ro) σ)
  | _, _ => none)
def appE : Ent := (9, fun xs σ => match xs, dskAt σ with
  | [.ptr (.out 0) 0, .slice es w' t'], some (r, s, bs, 1, .own 0) => some (.nm (fitsB r bs es) fun b => .nm (bif b then bs.map AL.byteOf ++ (es.map bytesOfV).flatten else bs.map AL.byteOf) fun l =>
      .full (okW 1 w' es && (es.all bytesIs && (bs.all byteIs && (hold (decide (σ.own 0 = some bs.length)) && (hold (decide ((bs.length : Int) ≤ r)) && (hold (decide (r ≤ 1073741824)) && hold (decide (es.length ≤ 1000000000))))))))
      (.int .i64 (bif b then 0 else 50)) (dskO σ r s (bw l)))
  | _, _ => none)
def awakeE : Ent := (7, fun xs _ => match xs with | [] => some (.pure true (.bool true)) | _ => none)
end
end Go.Proofs.Ytekcekddahkajaa
