/-
  Seat 02 (value): the contract of the law of bytes in order.
-/
import Derived.Test.YteohhklblbinbaaDoorVl
import Derived.Test.YteohhklblbinbaaDoorVp
import Derived.Test.YteohhklblbinbaaDoorVu
namespace Go.Proofs.YteohhklblbinbaaDoor
open Go.AL
set_option linter.unusedSimpArgs false
set_option linter.unusedVariables false
set_option maxHeartbeats 2000000
set_option maxRecDepth 20000
theorem fits_rv {b : Nat} {a : AVal} (h : Fits (.slice (.int .i32) 1 b) a) : ∃ l : List Int, a = .slice (rv l) 1 .ro ∧ l.length * b ≤ 140737488351232 := by
  obtain ⟨es, rfl, h1, h2⟩ := h
  obtain ⟨ls, rfl, hx⟩ := map_of (f := AVal.int .i32) (P := fun _ => True) fun e he => by
    obtain ⟨n, h3, _⟩ := h2 e he
    exact ⟨n, h3, trivial⟩
  exact ⟨ls, rfl, by simpa using h1⟩
theorem enc_rv : ∀ l : List Int, (rv l).flatMap encV = txtR l
  | [] => rfl
  | r :: l => by
    show encA r ++ (rv l).flatMap encV = encA r ++ txtR l
    rw [enc_rv l]
theorem rv_r32 (l : List Int) : (rv l).all isR32 = true := by simp [rv, isR32]
theorem ok_len {v : Vl} (h : v.ok) : v.s.length ≤ 200 := by
  rcases h with ⟨_, h⟩ | ⟨_, _, h⟩
  · rw [h]; simp
  · exact h
theorem orders_law (xs : List AVal) (h : FitsL [.agg [.int .i64, .int .i64, .str], .agg [.int .i64, .int .i64, .str], .slice (.int .i32) 1 4] xs) : ACall Tryd.prog 6 xs Sto.empty fun r _ => r = .bool true := by
  obtain ⟨_, _, rfl, h1, _, _, rfl, h2, _, _, rfl, h3, rfl⟩ := h
  obtain ⟨⟨k, n, s⟩, rfl, f1, _⟩ := fits_vl h1
  obtain ⟨⟨k2, n2, s2⟩, rfl, f2, _⟩ := fits_vl h2
  obtain ⟨l, rfl, _⟩ := fits_rv h3
  refine ordersL_i k n k2 n2 s s2 l _ (.of [awakeE, rightRE, bytesE, orderRE, compareE, numE, textLE, readE, printE] rfl ⟨awake_ok, rightR_ok, bytes_ok, orderR_ok, compare_ok, num_ok, textL_ok, read_ok, print_ok, trivial⟩) ?_
  simp only [hold_eq]
  refine brG rfl (brV_by' (fun h1 => brV_by' (fun h2 => brV_by (fun _ => by trivial) (fun h3 => ?_)) (fun _ => by trivial)) (fun _ => by trivial))
  have hl : l.length ≤ 50 := by have := of_decide_eq_false h1; rw [rv_length] at this; omega
  have o1 : okV ⟨k, n, s⟩ = true := by simpa using h2
  have o2 : okV ⟨k2, n2, s2⟩ = true := by simpa using h3
  have q1 := okV_of o1
  have q2 := okV_of o2
  have i1 := i64r_mk f1
  have i2 := i64r_mk f2
  have b1 := bytesV_len ⟨k, n, s⟩
  have b2 := bytesV_len ⟨k2, n2, s2⟩
  have c1 := ok_len q1
  have c2 := ok_len q2
  intro a ha x hx
  rw [o1] at ha; subst ha
  have hx : x = bytesV ⟨k, n, s⟩ := hx
  refine gb_by i1 ?_
  intro a ha y hy
  rw [o2] at ha; subst ha
  have hy : y = bytesV ⟨k2, n2, s2⟩ := hy
  rw [← hx] at b1
  rw [← hy] at b2
  have hxl : (bw x).length = x.length := bw_length x
  have hyl : (bw y).length = y.length := bw_length y
  refine gb_by i2 (brG rfl (brG rfl (gb_by (dt (bw_isU8 _)) (gb_by (dt (bw_isU8 _)) ?_))))
  intro u hu
  rw [map_byteOf_bw, map_byteOf_bw] at hu
  refine gb_by (and_tt (lenT_mk (by rw [map_byteOf_bw]; omega)) (lenT_mk (by rw [map_byteOf_bw]; omega))) ?_
  intro z hz
  have huz : u = z := by rw [hu, hz, hx, hy]; exact cmp_bytes _ _ q1 f1 q2 f2
  refine brG (by rw [huz]; simp) ?_
  have hm : (if ((bw y).length : Int) < ((bw x).length : Int) then ((bw y).length : Int) else ((bw x).length : Int)) = ((min x.length y.length : Nat) : Int) := by split <;> omega
  rw [hm]
  have t : Int.toNat ((min x.length y.length : Nat) : Int) - 0 = min x.length y.length := rfl
  rw [t, List.drop_zero, List.drop_zero, ← bw_take, ← bw_take]
  refine gb_by (dt (by omega)) (gb_by (dt (bw_isU8 _)) (gb_by (dt (by omega)) (gb_by (dt (bw_isU8 _)) (brF ?_ ?_))))
  · rw [map_byteOf_bw, map_byteOf_bw]
    have := beqb (a := x.take (min x.length y.length) == y.take (min x.length y.length)) (b := k == k2 && (n == n2 && (s == s2 && true))) (by
      rw [eqb_iff, beq_iff_eq, hx, hy]
      exact bytes_min q1 f1 q2 f2)
    rw [this]; rfl
  rw [enc_rv]
  refine gb_by (dt (rv_r32 l)) ?_
  have htl := txtR_len l
  intro p hp
  have hnb : (-9223372036854775808 : Int) ≤ n ∧ n ≤ 9223372036854775807 := f1
  have hpl : p.length ≤ 1000000 := by
    rw [hp]
    have := printV_len ⟨1, n, []⟩ (.inl ⟨rfl, rfl⟩) f1
    omega
  refine gb_by i1 ?_
  intro r hr v hv
  rw [hp, read_num n hnb.1 hnb.2] at hr
  subst hr
  have hv : v = ⟨1, n, []⟩ := hv
  subst hv
  refine gb_by (lenT_mk hpl) ?_
  intro p2 hp2
  have hp2l : p2.length ≤ 1000000 := by
    rw [hp2]
    by_cases h200 : (txtR l).length ≤ 200
    · have := printV_len ⟨2, 0, txtR l⟩ (.inr ⟨rfl, rfl, h200⟩) ⟨by show (-9223372036854775808 : Int) ≤ 0; omega, by show (0 : Int) ≤ 9223372036854775807; omega⟩
      omega
    · have : printV ⟨2, 0, txtR l⟩ = [63] := by
        unfold printV
        rw [if_neg (by simp), if_neg (by rintro ⟨_, _, h⟩; exact h200 h)]
      rw [this]; simp
  refine gb_by (i64r_mk (by omega)) ?_
  intro r2 hr2 v2 hv2
  refine gb_by (lenT_mk hp2l) (brT rfl (brT (by simp) (brV_by' (fun h4 => ?_) (fun _ => by trivial))))
  have h200 : (txtR l).length ≤ 200 := by have := of_decide_eq_false h4; omega
  rw [hp2, read_text l h200] at hr2
  subst hr2
  have hv2 : v2 = ⟨2, 0, txtR l⟩ := hv2
  subst hv2
  exact brT rfl (ft (by simp))
end Go.Proofs.YteohhklblbinbaaDoor
