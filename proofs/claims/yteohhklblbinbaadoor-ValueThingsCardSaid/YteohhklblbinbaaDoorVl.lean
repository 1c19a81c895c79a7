/-
  Seat 02 (value): the laws' contracts.
-/
import Derived.Test.YteohhklblbinbaaDoorVn
import Derived.Test.YteohhklblbinbaaDoorVt
namespace Go.Proofs.YteohhklblbinbaaDoor
open Go.AL
set_option linter.unusedSimpArgs false
set_option linter.unusedVariables false
set_option maxHeartbeats 2000000
set_option maxRecDepth 20000
theorem brG {b : Bool} {A B : Prop} (hb : b = false) (h : A) : brV b false A B := by subst hb; exact brV_by' (fun _ => h) (fun h => by cases h)
theorem ft {b : Bool} (h : b = true) : AVal.bool b = .bool true := by rw [h]
theorem fits_vl {a : AVal} (h : Fits (.agg [.int .i64, .int .i64, .str]) a) : ∃ v : Vl, a = v.a ∧ v.fit ∧ v.s.length ≤ 140737488351232 := by
  obtain ⟨cs, rfl, _, _, rfl, ⟨k, rfl, _⟩, _, _, rfl, ⟨n, rfl, hn⟩, _, _, rfl, ⟨s, rfl, hs⟩, rfl⟩ := h
  exact ⟨⟨k, n, s⟩, rfl, hn, hs⟩
theorem fits_vlv {b : Nat} {a : AVal} (h : Fits (.slice (.agg [.int .i64, .int .i64, .str]) 3 b) a) : ∃ l : List Vl, a = .slice (vlv l) 3 .ro ∧ l.length * b ≤ 140737488351232 ∧ ∀ v ∈ l, v.fit := by
  obtain ⟨es, rfl, h1, h2⟩ := h
  obtain ⟨ls, rfl, hx⟩ := map_of (f := Vl.a) (P := Vl.fit) fun e he => by
    obtain ⟨v, h3, h4, _⟩ := fits_vl (h2 e he)
    exact ⟨v, h3, h4⟩
  exact ⟨ls, rfl, by simpa using h1, hx⟩
theorem cmpB_cases : ∀ a b : Txt, cmpB a b = -1 ∨ cmpB a b = 0 ∨ cmpB a b = 1
  | [], [] => .inr (.inl rfl)
  | [], _ :: _ => .inl rfl
  | _ :: _, [] => .inr (.inr rfl)
  | x :: a, y :: b => by
    rw [cmpB]
    split
    · exact .inl rfl
    · split
      · exact .inr (.inr rfl)
      · exact cmpB_cases a b
theorem cmpV_cases (v w : Vl) : cmpV v w = -1 ∨ cmpV v w = 0 ∨ cmpV v w = 1 := by
  unfold cmpV
  have h1 := sgI_cases v.k w.k
  have h2 := sgI_cases v.n w.n
  have h3 := cmpB_cases v.s w.s
  split
  · omega
  · split
    · omega
    · exact h3
theorem eqb_iff (k k2 n n2 : Int) (s s2 : Txt) : (k == k2 && (n == n2 && (s == s2 && true))) = true ↔ (⟨k, n, s⟩ : Vl) = ⟨k2, n2, s2⟩ := by
  simp only [Bool.and_eq_true, beq_iff_eq, Bool.and_true, Vl.mk.injEq]
theorem beqb {a b : Bool} (h : a = true ↔ b = true) : (a == b) = true := by
  rw [Bool.eq_iff_iff.2 h]; simp
theorem compares_law (xs : List AVal) (h : FitsL [.agg [.int .i64, .int .i64, .str], .agg [.int .i64, .int .i64, .str], .agg [.int .i64, .int .i64, .str]] xs) : ACall Tryd.prog 5 xs Sto.empty fun r _ => r = .bool true := by
  obtain ⟨_, _, rfl, h1, _, _, rfl, h2, _, _, rfl, h3, rfl⟩ := h
  obtain ⟨⟨k, n, s⟩, rfl, _⟩ := fits_vl h1
  obtain ⟨⟨k2, n2, s2⟩, rfl, _⟩ := fits_vl h2
  obtain ⟨⟨k3, n3, s3⟩, rfl, _⟩ := fits_vl h3
  refine comparesL_i k n k2 n2 k3 n3 s s2 s3 _ (.of [awakeE, compareE, compareRE] rfl ⟨awake_ok, compare_ok, compareR_ok, trivial⟩) ?_
  simp only [hold_eq]
  refine brG rfl (brV_by' (fun h1 => brV_by' (fun h2 => brV_by (fun _ => by trivial) (fun h3 => ?_)) (fun _ => by trivial)) (fun _ => by trivial))
  have g1 := of_decide_eq_false h1
  have g2 := of_decide_eq_false h2
  intro y hy y1 hy1 y2 hy2 y3 hy3
  refine gb_by (and_tt (lenT_mk (by omega)) (lenT_mk (by omega))) (brT (by rw [hy, hy3]; simp) ?_)
  intro y4 hy4
  have hc := cmpV_cases ⟨k, n, s⟩ ⟨k2, n2, s2⟩
  rw [← hy] at hc
  refine brT (by rw [hy4, cmpV_anti, ← hy, wrap_i64 (by omega) (by omega)]; simp) ?_
  intro y5 hy5
  refine brT (by rw [hy5, (cmpV_zero _ _).2 rfl]; rfl) ?_
  have fin : AVal.bool ((y == 0) == (k == k2 && (n == n2 && (s == s2 && true)))) = .bool true := ft (beqb (by rw [eqb_iff, ← cmpV_zero, ← hy, beq_iff_eq]))
  refine brV_by (fun h4 => brV_by' (fun h5 => brT ?_ fin) (fun _ => fin)) (fun _ => fin)
  have h4 := of_decide_eq_true h4
  have h5 : y1 ≤ 0 := by simpa using h5
  refine decide_eq_true ?_
  rw [hy2]
  exact cmpV_trans _ ⟨k2, n2, s2⟩ _ (by rw [← hy]; exact h4) (by rw [← hy1]; exact h5)
theorem rows_len : ∀ l : List Vl, (∀ v ∈ l, v.ok) → (l.flatMap bytesV).length ≤ 500 * l.length
  | [], _ => Nat.zero_le _
  | v :: l, h => by
    have h1 := rows_len l fun w hw => h w (List.mem_cons_of_mem _ hw)
    have h2 := bytesV_len v
    have h3 : v.s.length ≤ 200 := by
      rcases h v (List.mem_cons_self ..) with ⟨_, h⟩ | ⟨_, _, h⟩
      · rw [h]; simp
      · exact h
    rw [List.flatMap_cons, List.length_append, List.length_cons]
    omega
theorem okV_mk {v : Vl} (h : v.ok) : okV v = true := decide_eq_true h
theorem okV_of {v : Vl} (h : okV v = true) : v.ok := of_decide_eq_true h
theorem rows_law (xs : List AVal) (h : FitsL [.slice (.agg [.int .i64, .int .i64, .str]) 3 32] xs) : ACall Tryd.prog 8 xs Sto.empty fun r _ => r = .bool true := by
  obtain ⟨_, _, rfl, h1, rfl⟩ := h
  obtain ⟨l, rfl, _, hfit⟩ := fits_vlv h1
  refine rowsL_i l _ (.of [awakeE, rightRE, bytesE, takeE] rfl ⟨awake_ok, rightR_ok, bytes_ok, take_ok, trivial⟩) ?_
  simp only [hold_eq]
  have hn : (vlv l).length = l.length := vlv_length l
  refine brG rfl (brV_by (fun _ => by trivial) (fun h => ?_))
  have hl : l.length ≤ 30 := by have := of_decide_eq_false h; omega
  refine loopV_intro (α := Nat) (fun i => rowsLA_S l ((l.take i).flatMap bytesV) i) (fun i => i ≤ l.length ∧ ∀ v ∈ l.take i, v.ok) (fun i => l.length - i) ?_ 0 ⟨Nat.zero_le _, fun s hs => by cases hs⟩
  rintro i ⟨hi, hpre⟩ L hL
  refine Eq.mpr (rowsLA_r l ((l.take i).flatMap bytesV) i L _) ?_
  simp only [hold_eq]
  have hlen := rows_len (l.take i) hpre
  rw [List.length_take] at hlen
  refine brV_by (fun h => ?_) (fun h => ?_)
  · have hlt : i < l.length := by have := of_decide_eq_true h; omega
    have hf := hfit _ (List.getElem_mem hlt)
    have htk : l.take (i + 1) = l.take i ++ [l[i]] := by rw [List.take_add_one, List.getElem?_eq_getElem hlt]; rfl
    rw [elemAt_vlv l i hlt]
    have e : (⟨AVal.intOf (List.getD [AVal.int .i64 l[i].k, .int .i64 l[i].n, .str l[i].s] 0 .undef), AVal.intOf (List.getD [AVal.int .i64 l[i].k, .int .i64 l[i].n, .str l[i].s] 1 .undef), AVal.strOf (List.getD [AVal.int .i64 l[i].k, .int .i64 l[i].n, .str l[i].s] 2 .undef)⟩ : Vl) = l[i] := rfl
    rw [e]
    refine gb_by (dt (by omega)) (gb_by rfl (brV_by (fun _ => by trivial) (fun h1 => ?_)))
    have hk : okV l[i] = true := by simpa using h1
    refine gb_by (dt (by omega)) (gb_by rfl ?_)
    intro y hy z hz
    rw [hk] at hy
    subst hy
    have hz : z = bytesV l[i] := hz
    subst hz
    have hbl := bytesV_len l[i]
    have hs : l[i].s.length ≤ 200 := by
      rcases okV_of hk with ⟨_, h⟩ | ⟨_, _, h⟩
      · rw [h]; simp
      · exact h
    have hol : (bw ((l.take i).flatMap bytesV)).length = ((l.take i).flatMap bytesV).length := bw_length _
    have hzl : (bw (bytesV l[i])).length = (bytesV l[i]).length := bw_length _
    refine gb_by (i64r_mk hf) (gb_by (dt ⟨dt ⟨trivial, trivial, by omega, by omega⟩, trivial⟩) ?_)
    have nxt := hL (i + 1) ⟨hlt, fun v hv => by
      rw [htk] at hv
      rcases List.mem_append.1 hv with h5 | h5
      · exact hpre v h5
      · rw [List.mem_singleton.1 h5]; exact okV_of hk⟩ (by omega)
    have e3 : bw ((l.take i).flatMap bytesV) ++ bw (bytesV l[i]) = bw ((l.take (i + 1)).flatMap bytesV) := by
      rw [htk, List.flatMap_append, bw_append]; simp
    have e4 : (bw ((l.take i).flatMap bytesV)).length + (bw (bytesV l[i])).length = (bw ((l.take (i + 1)).flatMap bytesV)).length := by rw [← e3, List.length_append]
    rw [setOwn_e1, e3, e4, i64_succ hlt (by omega)]
    exact nxt
  have hge : i = l.length := by have := of_decide_eq_false h; omega
  subst hge
  rw [List.take_length] at *
  refine leaveTo (toCut (Eq.mpr (rowsLM_r l _ _) ?_))
  have hall := hpre
  clear hL hlen
  generalize hM : (bw (l.flatMap bytesV)).length = M
  refine loopV_intro (α := Bool × Nat) (fun x => match x.1 with
    | true => rowsLO_S l ((l.drop x.2).flatMap bytesV) M x.2
    | false => rowsLR_S l ((l.drop x.2).flatMap bytesV) M x.2) (fun x => x.2 ≤ l.length ∧ (x.1 = true → x.2 = 0)) (fun x => l.length - x.2) ?_ (true, 0) ⟨Nat.zero_le _, fun _ => rfl⟩
  rintro ⟨b, i⟩ ⟨hi, hb⟩ L hL
  simp only at hi hb
  cases b
  rotate_left
  · refine Eq.mpr (rowsLO_r l ((l.drop i).flatMap bytesV) M i L _) ?_
    simp only [hold_eq]
    refine brV_by (fun h => ?_) (fun h => ?_)
    · have hlt : i < l.length := by have := of_decide_eq_true h; omega
      have hv := List.getElem_mem hlt
      have hk := hall _ hv
      have hf := hfit _ hv
      have hrest : (l.drop i).flatMap bytesV = bytesV l[i] ++ (l.drop (i + 1)).flatMap bytesV := by rw [List.drop_eq_getElem_cons hlt, List.flatMap_cons]
      have hlen : ((l.drop i).flatMap bytesV).length ≤ 100000 := by
        have := rows_len (l.drop i) (fun v hv => hall v (List.mem_of_mem_drop hv))
        have : (l.drop i).length ≤ 30 := by rw [List.length_drop]; omega
        omega
      have hp := bytesV_pos l[i]
      intro y hy
      rw [map_byteOf_bw, hrest, take_bytes l[i] hk hf] at hy
      subst hy
      rw [elemAt_vlv l i hlt]
      refine gb_by (and_tt (bw_byteIs _) (dt (by rw [bw_length]; omega))) (brG rfl (gb_by (dt (by rw [vlv_length]; omega)) (gb_by rfl (brG ?_ (brG ?_ (brF ?_ (gb_by ?_ ?_)))))))
      · show (!(l[i].k == l[i].k && (l[i].n == l[i].n && (l[i].s == l[i].s && true)))) = false
        simp
      · exact decide_eq_false (by simp only; omega)
      · refine decide_eq_false ?_
        rw [bw_length, hrest, List.length_append]; simp only; omega
      · refine decide_eq_true ?_
        rw [bw_length, hrest, List.length_append]; simp only; omega
      · have nxt := hL (false, i + 1) ⟨hlt, fun h => by cases h⟩ (by simp only; omega)
        have e : List.take (Int.toNat (((bw ((l.drop i).flatMap bytesV)).length : Nat) : Int) - Int.toNat (((bytesV l[i]).length : Nat) : Int)) (List.drop (Int.toNat (((bytesV l[i]).length : Nat) : Int)) (bw ((l.drop i).flatMap bytesV))) = bw ((l.drop (i + 1)).flatMap bytesV) := by
          have t : ∀ m : Nat, Int.toNat (m : Int) = m := fun _ => rfl
          rw [t, t, ← bw_drop, hrest, List.drop_left, List.take_of_length_le]
          rw [bw_length, bw_length, List.length_append]; omega
        rw [i64_succ hlt (by omega)]
        simp only
        rw [e]
        exact nxt
    · have hge : i = l.length := by have := of_decide_eq_false h; rw [vlv_length] at this; omega
      subst hge
      refine leaveTo (toCut (Eq.mpr (rowsLG_r _ M _) ?_))
      rw [List.drop_length, hold_eq]
      rfl
  · refine Eq.mpr (rowsLR_r l ((l.drop i).flatMap bytesV) M i L _) ?_
    simp only [hold_eq]
    refine brV_by (fun h => ?_) (fun h => ?_)
    · have hlt : i < l.length := by have := of_decide_eq_true h; omega
      have hv := List.getElem_mem hlt
      have hk := hall _ hv
      have hf := hfit _ hv
      have hrest : (l.drop i).flatMap bytesV = bytesV l[i] ++ (l.drop (i + 1)).flatMap bytesV := by rw [List.drop_eq_getElem_cons hlt, List.flatMap_cons]
      have hlen : ((l.drop i).flatMap bytesV).length ≤ 100000 := by
        have := rows_len (l.drop i) (fun v hv => hall v (List.mem_of_mem_drop hv))
        have : (l.drop i).length ≤ 30 := by rw [List.length_drop]; omega
        omega
      have hp := bytesV_pos l[i]
      intro y hy
      rw [map_byteOf_bw, hrest, take_bytes l[i] hk hf] at hy
      subst hy
      rw [elemAt_vlv l i hlt]
      refine gb_by (and_tt (bw_byteIs _) (dt (by rw [bw_length]; omega))) (brG rfl (gb_by (dt (by rw [vlv_length]; omega)) (gb_by rfl (brG ?_ (brG ?_ (brF ?_ (gb_by ?_ ?_)))))))
      · show (!(l[i].k == l[i].k && (l[i].n == l[i].n && (l[i].s == l[i].s && true)))) = false
        simp
      · exact decide_eq_false (by simp only; omega)
      · refine decide_eq_false ?_
        rw [bw_length, hrest, List.length_append]; simp only; omega
      · refine decide_eq_true ?_
        rw [bw_length, hrest, List.length_append]; simp only; omega
      · have nxt := hL (false, i + 1) ⟨hlt, fun h => by cases h⟩ (by simp only; omega)
        have e : List.take (Int.toNat (((bw ((l.drop i).flatMap bytesV)).length : Nat) : Int) - Int.toNat (((bytesV l[i]).length : Nat) : Int)) (List.drop (Int.toNat (((bytesV l[i]).length : Nat) : Int)) (bw ((l.drop i).flatMap bytesV))) = bw ((l.drop (i + 1)).flatMap bytesV) := by
          have t : ∀ m : Nat, Int.toNat (m : Int) = m := fun _ => rfl
          rw [t, t, ← bw_drop, hrest, List.drop_left, List.take_of_length_le]
          rw [bw_length, bw_length, List.length_append]; omega
        rw [i64_succ hlt (by omega)]
        simp only
        rw [e]
        exact nxt
    · have hge : i = l.length := by have := of_decide_eq_false h; rw [vlv_length] at this; omega
      subst hge
      refine leaveTo (toCut (Eq.mpr (rowsLF_r _ M _) ?_))
      rw [List.drop_length, hold_eq]
      rfl
theorem takes_law (xs : List AVal) (h : FitsL [.agg [.int .i64, .int .i64, .str], .slice (.int .u8) 1 1] xs) : ACall Tryd.prog 7 xs Sto.empty fun r _ => r = .bool true := by
  obtain ⟨_, _, rfl, h1, _, _, rfl, h2, rfl⟩ := h
  obtain ⟨⟨k, n, s⟩, rfl, f1, _⟩ := fits_vl h1
  obtain ⟨b, rfl, _⟩ := fits_bw h2
  refine takesL_i k n s b _ (.of [awakeE, takeE, takeRE, bytesE, bytesRE, rightRE] rfl ⟨awake_ok, take_ok, takeR_ok, bytes_ok, bytesR_ok, rightR_ok, trivial⟩) ?_
  simp only [hold_eq, List.nil_append, Nat.zero_add]
  have hbl : (bw b).length = b.length := bw_length b
  refine brG rfl (brV_by' (fun h1 => brV_by (fun _ => by trivial) (fun h2 => ?_)) (fun _ => by trivial))
  have g1 : b.length ≤ 1000 := by have := of_decide_eq_false h1; omega
  have g2 : s.length ≤ 1000 := by have := of_decide_eq_false h2; omega
  have i1 := i64r_mk f1
  refine gb_by (dt ⟨dt ⟨trivial, by omega, by omega⟩, trivial⟩) ?_
  intro y hy
  refine gb_by (and_tt (bw_byteIs _) (dt (by omega))) ?_
  intro z hz
  refine gb_by (and_tt (bw_byteIs _) (dt (by omega))) ?_
  have : y = z := by rw [hy, hz]
  subst this
  refine brG (by simp) (brG (by simp) (brF (by simp) ?_))
  intro o ho x hx
  refine gb_by i1 ?_
  cases hok : okV ⟨k, n, s⟩ with
  | false =>
    rw [hok] at ho; subst ho
    have hx : x = [] := hx
    subst hx
    exact brT rfl (brT rfl (ft rfl))
  | true =>
    rw [hok] at ho; subst ho
    have hx : x = bytesV ⟨k, n, s⟩ := hx
    have q1 := okV_of hok
    have hxl := bytesV_len ⟨k, n, s⟩
    rw [← hx] at hxl
    have hxl : x.length ≤ 2 * s.length + 9 := hxl
    have hbx : (bw x).length = x.length := bw_length x
    refine brF rfl (brG rfl (gb_by (dt (bw_isU8 _)) ?_))
    intro w hw
    refine gb_by (and_tt i1 (lenT_mk (by omega))) (gb_by (dt (bw_isU8 _)) (brF (by rw [map_byteOf_bw, map_byteOf_bw, hx, hw]; simp) ?_))
    refine gb_by (dt ⟨dt ⟨trivial, .inl trivial, by omega, by omega⟩, trivial⟩) (gb_by (dt ⟨dt ⟨trivial, trivial, by omega, by omega⟩, trivial⟩) ?_)
    intro u hu
    rw [← bw_append, map_byteOf_bw, hx, take_bytes _ q1 f1] at hu
    subst hu
    refine gb_by (and_tt (by rw [← bw_append]; exact bw_byteIs _) (decide_eq_true (by rw [List.length_append]; omega))) (brT rfl (brT ?_ (ft ?_)))
    · simp
    · rw [hbx, hx]; simp
theorem printV_len (v : Vl) (h : v.ok) (hf : v.fit) : (printV v).length ≤ 1100 := by
  unfold printV
  rcases h with ⟨h1, h2⟩ | ⟨h1, h2, h3⟩
  · rw [if_pos ⟨h1, by rw [h2]; rfl⟩]
    have := Lib.itoa_length_le v.n hf.1 hf.2
    omega
  · rw [if_neg (by omega), if_pos ⟨h1, h2, h3⟩]
    have := quoT_len v.s
    omega
theorem apart_law (xs : List AVal) (h : FitsL [.agg [.int .i64, .int .i64, .str], .agg [.int .i64, .int .i64, .str]] xs) : ACall Tryd.prog 3 xs Sto.empty fun r _ => r = .bool true := by
  obtain ⟨_, _, rfl, h1, _, _, rfl, h2, rfl⟩ := h
  obtain ⟨⟨k, n, s⟩, rfl, f1, _⟩ := fits_vl h1
  obtain ⟨⟨k2, n2, s2⟩, rfl, f2, _⟩ := fits_vl h2
  refine apartL_i k n k2 n2 s s2 _ (.of [awakeE, rightRE, bytesE, readE, printE, thingPE] rfl ⟨awake_ok, rightR_ok, bytes_ok, read_ok, print_ok, thingP_ok, trivial⟩) ?_
  simp only [hold_eq]
  refine brG rfl (brV_by' (fun h1 => brV_by (fun _ => by trivial) (fun h2 => ?_)) (fun _ => by trivial))
  have o1 : okV ⟨k, n, s⟩ = true := by simpa using h1
  have o2 : okV ⟨k2, n2, s2⟩ = true := by simpa using h2
  have q1 := okV_of o1
  have q2 := okV_of o2
  have i1 := i64r_mk f1
  have i2 := i64r_mk f2
  intro a ha x hx
  rw [o1] at ha; subst ha
  have hx : x = bytesV ⟨k, n, s⟩ := hx
  refine gb_by i1 ?_
  intro a ha y hy
  rw [o2] at ha; subst ha
  have hy : y = bytesV ⟨k2, n2, s2⟩ := hy
  refine gb_by i2 ?_
  intro p hp
  refine gb_by i1 ?_
  intro r hr u hu
  refine gb_by (lenT_mk (by rw [hp]; have := printV_len _ q1 f1; omega)) ?_
  intro p2 hp2
  refine gb_by i2 ?_
  intro r2 hr2 u2 hu2
  refine gb_by (lenT_mk (by rw [hp2]; have := printV_len _ q2 f2; omega)) ?_
  have hbytes : ((List.map AL.byteOf (bw x) == List.map AL.byteOf (bw y)) == (k == k2 && (n == n2 && (s == s2 && true)))) = true := beqb (by
    rw [eqb_iff, map_byteOf_bw, map_byteOf_bw, beq_iff_eq, hx, hy]
    exact ⟨fun h => bytes_inj q1 f1 q2 f2 h, fun h => by rw [h]⟩)
  have htext : ∀ a b : Txt, a = printV ⟨k, n, s⟩ → b = printV ⟨k2, n2, s2⟩ → (u.k == k && (u.n == n && (u.s == s && true))) = true → (u2.k == k2 && (u2.n == n2 && (u2.s == s2 && true))) = true →
      AVal.bool ((a == b) == (k == k2 && (n == n2 && (s == s2 && true)))) = .bool true := fun a b ha hb e1 e2 => ft (beqb (by
    rw [eqb_iff] at e1 e2
    rw [eqb_iff, beq_iff_eq, ha, hb, ← hp, ← hp2]
    refine ⟨fun h => ?_, fun h => ?_⟩
    · have e1 : u = ⟨k, n, s⟩ := e1
      have e2 : u2 = ⟨k2, n2, s2⟩ := e2
      rw [← e1, ← e2, hu, hu2, hr, hr2, h]
    · rw [hp, hp2, h]))
  have not_of : ∀ {b : Bool}, (!b) = false → b = true := fun {b} h => by cases b <;> simp_all
  refine brV_by (fun h => brV_by (fun h' => brF ?_ ?_) (fun h' => brV_by (fun _ => ?_) (fun _ => ?_))) (fun h => brV_by (fun h2 => brV_by (fun _ => ?_) (fun h3 => brV_by (fun _ => ?_) (fun _ => ?_))) (fun h2 => brV_by (fun _ => ?_) (fun _ => brV_by (fun _ => ?_) (fun _ => ?_))))
  · have h := of_decide_eq_true h
    have h' := of_decide_eq_true h'
    have : ((n == n2) == (k == k2 && (n == n2 && (s == s2 && true)))) = true := beqb (by
      rw [eqb_iff, beq_iff_eq, Vl.mk.injEq]
      have e1 := List.length_eq_zero_iff.1 h.2
      have e2 := List.length_eq_zero_iff.1 h'.2
      rw [h.1, h'.1, e1, e2]; simp)
    rw [this]; rfl
  all_goals
    refine gb_by (dt (bw_isU8 _)) (gb_by (dt (bw_isU8 _)) (brT hbytes (brV_by' (fun h4 => brV_by' (fun h5 => ?_) (fun _ => by trivial)) (fun _ => by trivial))))
    intro a ha
    refine gb_by i1 ?_
    intro b hb
    exact gb_by i2 (htext a b ha hb (not_of h4) (not_of h5))
end Go.Proofs.YteohhklblbinbaaDoor

