/-
  Seat 08 (block): what is told of calls.
-/
import Derived.Test.YtajnhcncggbanaaKn
import Derived.Test.YtajnhcncggbanaaB0
set_option linter.unusedVariables false
namespace Go.Proofs.Ytajnhcncggbanaa
open Go.AL

def byteOk : AVal → Bool
  | .int .u8 n => decide (0 ≤ n) && decide (n < 256)
  | _ => false
def bytesOk : AVal → Bool
  | .slice es s _ => s == 1 && es.all byteOk && decide (es.length ≤ 140737488351232)
  | _ => false
def natOf (v : AVal) : Nat := v.intOf.toNat
def bytesV (v : AVal) : List Nat := v.elems.map natOf
/-- Bytes, as a slice's elements. -/
def bv (l : List Nat) : List AVal := l.map fun (n : Nat) => AVal.int .u8 (n : Int)
def blkV (x : Blk) : AVal := .agg [.int .u8 (x.1 : Int), .slice (bv x.2) 1 .ro]
def blkOk : AVal → Bool
  | .agg [.int .u8 k, .slice es s _] => (decide (0 ≤ k) && decide (k < 256)) && (s == 1 && es.all byteOk && decide (es.length ≤ 1048576))
  | _ => false
def blkOk0 : AVal → Bool
  | .agg [.int .u8 k, .slice es s _] => (decide (0 ≤ k) && decide (k < 256)) && (s == 1 && es.all byteOk)
  | _ => false
def blkOf : AVal → Blk
  | .agg [.int .u8 k, .slice es _ _] => (k.toNat, es.map natOf)
  | _ => (0, [])

/-- It has the width, or no elements. -/
def okS (n s : Nat) (es : List AVal) : Bool := s == n || es.isEmpty

noncomputable section
def sumE : Ent := (9, fun xs _ => match xs with | [.slice es s t] => some (.pure (okS 1 s es && (es.all bytesOk && decide (es.length ≤ 140737488351232))) (.int .u32 ((holdA (crcN (es.flatMap bytesV)) : Nat) : Int))) | _ => none)
def rsumE : Ent := (10, fun xs _ => match xs with | [.slice es s t] => some (.pure (okS 1 s es && (es.all byteOk && decide (es.length ≤ 140737488351232))) (.int .u32 ((holdA (crcN (es.map natOf)) : Nat) : Int))) | _ => none)
def four (n : Int) : List AVal := [.int .u8 (IntKind.u8.wrap (n.fdiv 16777216)), .int .u8 (IntKind.u8.wrap (n.fdiv 65536)), .int .u8 (IntKind.u8.wrap (n.fdiv 256)), .int .u8 (IntKind.u8.wrap n)]
def fourE : Ent := (20, fun xs σ => match xs with | [.slice es 1 (.own p), .int .u32 n] => some (.own (decide (σ.own p = some es.length) && decide (es.length ≤ 100000000000)) (.slice (es ++ four n) 1 (.own p)) (σ.setOwn p (es.length + 4)).own σ.nown) | _ => none)
def wordE : Ent := (21, fun xs _ => match xs with | [.slice es s t] => some (.pure (okS 1 s es && (decide (4 ≤ es.length) && es.all byteOk)) (.int .u32 ((holdA (wordN (es.map natOf)) : Nat) : Int))) | _ => none)
def cloneE : Ent := (22, fun xs _ => match xs with | [.slice es s t] => some (.pure (okS 1 s es && (es.all byteOk && decide (es.length ≤ 140737488351232))) (.slice es 1 .ro)) | _ => none)
def rfourE : Ent := (23, fun xs _ => match xs with | [.int .u32 n] => some (.pure true (.slice [.int .u8 (IntKind.u8.wrap (IntKind.u32.wrap (n.tdiv 16777216))), .int .u8 (IntKind.u8.wrap (IntKind.u32.wrap (n.tdiv 65536))), .int .u8 (IntKind.u8.wrap (IntKind.u32.wrap (n.tdiv 256))), .int .u8 (IntKind.u8.wrap n)] 1 .full)) | _ => none)
def rpackE : Ent := (24, fun xs _ => match xs with | [.agg [.int .u8 k, .slice es 1 t]] => some (.pure (blkOk (.agg [.int .u8 k, .slice es 1 t])) (.slice (bv (holdA (packN (k.toNat, es.map natOf)))) 1 .ro)) | _ => none)
def packE : Ent := (12, fun xs _ => match xs with | [.slice es s t] => some (.pure (okS 2 s es && (es.all blkOk && decide (es.length ≤ 1000))) (.tuple [.slice (bv (holdA (allN (es.map blkOf)))) 1 .ro, .int .i64 0])) | _ => none)
def allE : Ent := (19, fun xs _ => match xs with | [.slice es s t] => some (.pure (okS 2 s es && (es.all blkOk && decide (es.length ≤ 1000))) (.slice (bv (holdA (allN (es.map blkOf)))) 1 .ro)) | _ => none)
def sizeE : Ent := (14, fun xs _ => match xs with | [.slice es s t] => some (.pure (okS 2 s es && (es.all blkOk && decide (es.length ≤ 1000))) (.int .i64 ((holdA (sizeN (es.map blkOf)) : Nat) : Int))) | _ => none)
def takeE : Ent := (15, fun xs _ => match xs with | [.slice es s t] => some (.pure (okS 1 s es && (es.all byteOk && decide (es.length ≤ 140737488351232))) (.tuple [.agg [.int .u8 (((holdA (takeN (es.map natOf))).1.1 : Nat) : Int), .slice (bv (holdA (takeN (es.map natOf))).1.2) 1 .ro], .int .i64 (((holdA (takeN (es.map natOf))).2.1 : Nat) : Int), .int .i64 (((holdA (takeN (es.map natOf))).2.2 : Nat) : Int)])) | _ => none)
def rtakeE : Ent := (16, fun xs _ => match xs with | [.slice es s t] => some (.pure (okS 1 s es && (es.all byteOk && decide (es.length ≤ 140737488351232))) (.tuple [.agg [.int .u8 (((holdA (takeN (es.map natOf))).1.1 : Nat) : Int), .slice (bv (holdA (takeN (es.map natOf))).1.2) 1 .ro], .int .i64 (((holdA (takeN (es.map natOf))).2.1 : Nat) : Int), .int .i64 (((holdA (takeN (es.map natOf))).2.2 : Nat) : Int)])) | _ => none)
def scanE : Ent := (17, fun xs _ => match xs with | [.slice es s t] => some (.pure (okS 1 s es && (es.all byteOk && decide (es.length ≤ 100000000))) (.tuple [.slice ((holdA (scanN (es.map natOf))).1.map blkV) 2 .ro, .int .i64 (((holdA (scanN (es.map natOf))).2 : Nat) : Int)])) | _ => none)
def rscanE : Ent := (18, fun xs _ => match xs with | [.slice es s t] => some (.pure (okS 1 s es && (es.all byteOk && decide (es.length ≤ 100000000))) (.tuple [.slice ((holdA (scanN (es.map natOf))).1.map blkV) 2 .ro, .int .i64 (((holdA (scanN (es.map natOf))).2 : Nat) : Int)])) | _ => none)
def sameE : Ent := (13, fun xs _ => match xs with | [.slice es s t, .slice fs s' t'] => some (.pure ((okS 2 s es && okS 2 s' fs) && (es.all blkOk && fs.all blkOk) && decide (es.length ≤ 100000000)) (.bool (hold (es.map blkOf == fs.map blkOf)))) | _ => none)
def smallN (xs : List Blk) : Bool := decide (xs.length ≤ 20) && xs.all fun x => decide (x.2.length ≤ 500)
def smallE : Ent := (11, fun xs _ => match xs with | [.slice es s t] => some (.pure (okS 2 s es && (es.all blkOk0 && decide (es.length ≤ 140737488351232))) (.bool (hold (smallN (es.map blkOf))))) | _ => none)
def awakeE : Ent := (8, fun xs _ => match xs with | [] => some (.pure true (.bool true)) | _ => none)
end
end Go.Proofs.Ytajnhcncggbanaa
