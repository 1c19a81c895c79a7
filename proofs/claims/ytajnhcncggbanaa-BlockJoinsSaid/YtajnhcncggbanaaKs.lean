/-
  Seat 08 (block): the laws.
-/
import Derived.Test.YtajnhcncggbanaaKx
namespace Go.Proofs.Ytajnhcncggbanaa
open Go.AL
set_option linter.unusedSimpArgs false
set_option linter.unusedVariables false
set_option maxHeartbeats 4000000
set_option maxRecDepth 20000

theorem fits_bytes {a : AVal} (h : Fits (.slice (.int .u8) 1 1) a) : ∃ l : List Nat, a = .slice (bv l) 1 .ro ∧ Bytes l ∧ l.length ≤ 140737488351232 := by
  obtain ⟨es, rfl, h1, h2⟩ := h
  have : es.all byteOk = true := by
    rw [List.all_eq_true]
    intro x hx
    obtain ⟨n, rfl, h3, h4⟩ := h2 x hx
    have h3 : 0 ≤ n := h3
    have h4 : n ≤ 255 := h4
    simp [byteOk, h3]; omega
  obtain ⟨l, rfl, hb⟩ := bv_of this
  exact ⟨l, rfl, hb, by simpa [bv_length] using h1⟩

theorem fits_blk {a : AVal} (h : Fits (.agg [.int .u8, .slice (.int .u8) 1 1]) a) : ∃ x : Blk, a = blkV x ∧ x.1 < 256 ∧ Bytes x.2 ∧ x.2.length ≤ 140737488351232 := by
  simp only [Fits, FitsL] at h
  obtain ⟨cs, rfl, a1, r1, rfl, ⟨k, rfl, hk⟩, a2, r2, rfl, h2, rfl⟩ := h
  obtain ⟨l, rfl, hb, hl⟩ := fits_bytes (a := a2) (by simpa [Fits] using h2)
  have h3 : 0 ≤ k := hk.1
  have h4 : k ≤ 255 := hk.2
  refine ⟨(k.toNat, l), ?_, by simp only []; omega, hb, hl⟩
  simp only [blkV]
  rw [show ((k.toNat : Nat) : Int) = k by omega]

theorem fits_blks {a : AVal} (h : Fits (.slice (.agg [.int .u8, .slice (.int .u8) 1 1]) 2 32) a) : ∃ xs : List Blk, a = .slice (xs.map blkV) 2 .ro ∧ xs.length ≤ 140737488351232 ∧ ∀ x ∈ xs, x.1 < 256 ∧ Bytes x.2 ∧ x.2.length ≤ 140737488351232 := by
  obtain ⟨es, rfl, h1, h2⟩ := h
  obtain ⟨xs, rfl, hx⟩ := map_of fun e he => fits_blk (h2 e he)
  refine ⟨xs, rfl, ?_, hx⟩
  simp at h1; omega

theorem all_blk0 {xs : List Blk} (h : ∀ x ∈ xs, x.1 < 256 ∧ Bytes x.2 ∧ x.2.length ≤ 140737488351232) : (xs.map blkV).all blkOk0 = true := by
  rw [List.all_eq_true]
  intro v hv
  obtain ⟨x, hx, rfl⟩ := List.mem_map.1 hv
  obtain ⟨h1, h2, h3⟩ := h x hx
  simp [blkOk0, blkV, all_bv h2]; omega
theorem small_ok' {xs : List Blk} (h : ∀ x ∈ xs, x.1 < 256 ∧ Bytes x.2 ∧ x.2.length ≤ 140737488351232) (hs : smallN xs = true) : xs.length ≤ 20 ∧ ∀ x ∈ xs, BlkOk x ∧ x.2.length ≤ 500 := by
  simp only [smallN, Bool.and_eq_true, decide_eq_true_eq, List.all_eq_true] at hs
  refine ⟨hs.1, fun x hx => ?_⟩
  obtain ⟨h1, h2, h3⟩ := h x hx
  have := hs.2 x hx
  exact ⟨⟨h1, h2, by omega⟩, this⟩
theorem size_le {xs : List Blk} (h : ∀ x ∈ xs, x.2.length ≤ 500) : sizeN xs ≤ xs.length * 510 := by
  induction xs with
  | nil => simp [sizeN]
  | cons x xs ih =>
    have h1 := h x (by simp)
    have h2 := ih fun y hy => h y (by simp [hy])
    have e : sizeN (x :: xs) = 10 + x.2.length + sizeN xs := by simp [sizeN]
    rw [e, List.length_cons, Nat.add_mul]
    omega

theorem packs_law (xs0 : List AVal) (h : FitsL [.slice (.agg [.int .u8, .slice (.int .u8) 1 1]) 2 32] xs0) : ACall Try.prog 7 xs0 Sto.empty fun r _ => r = .bool true := by
  simp only [FitsL] at h
  obtain ⟨a, r, rfl, h, rfl⟩ := h
  obtain ⟨xs, rfl, hl, hx⟩ := fits_blks h
  refine packs_i _ _ (.of [awakeE, smallE, packE, allE, sizeE, scanE, sameE] rfl ⟨awake_ok, small_ok, pack_ok, all_ok, size_ok, scan_ok, same_ok, trivial⟩) ?_
  simp only [hold_eq, holdA_eq, map_blkOf, okS_same, bv_isU8, map_natOf_bv, bv_length, List.length_map]
  refine gb_by (by simp [all_blk0 hx, hl]) ?_
  cases hs : smallN xs with
  | false => simp
  | true =>
    obtain ⟨h20, hb⟩ := small_ok' hx hs
    have hbk : ∀ x ∈ xs, BlkOk x := fun x hx => (hb x hx).1
    have hsz := size_le fun x hx => (hb x hx).2
    have hsc := scan_all hbk []
    rw [List.append_nil, scan_nil] at hsc
    simp only [List.append_nil, Nat.add_zero] at hsc
    simp [all_blk hbk, all_bv (allN_bytes hbk), hsc, allN_length, show xs.length ≤ 1000 by omega, show xs.length ≤ 100000000 by omega, show sizeN xs ≤ 100000000 by omega]

theorem blkOk_blkV {x : Blk} (h : BlkOk x) : blkOk (blkV x) = true := by
  obtain ⟨h1, h2, h3⟩ := h
  simp [blkOk, blkV, all_bv h2, bv_length, h3]; omega
theorem scanF_ok : ∀ (f : Nat) (l : List Nat), Bytes l → (∀ x ∈ (scanF f l).1, BlkOk x) ∧ (scanF f l).1.length ≤ f
  | 0, l, hb => ⟨fun x hx => by simp [scanF] at hx, Nat.le_refl _⟩
  | f + 1, l, hb => by
    simp only [scanF]
    by_cases h : (takeN l).2.2 ≠ 0
    · rw [if_pos h]; exact ⟨(fun x hx => by cases hx), Nat.zero_le _⟩
    · rw [if_neg h]
      obtain ⟨h1, h2⟩ := scanF_ok f (l.drop (takeN l).2.1) (bytes_drop hb _)
      obtain ⟨t1, t2, t3, _⟩ := take_bytes hb
      refine ⟨fun x hx => ?_, by simp; exact h2⟩
      rcases List.mem_cons.1 hx with rfl | hx
      · exact ⟨t1, t2, t3⟩
      · exact h1 x hx
theorem scanF_le : ∀ (f : Nat) (l : List Nat), l.length ≤ f → (scanF f l).2 ≤ l.length
  | 0, l, h => by simp [scanF]
  | f + 1, l, h => by
    simp only [scanF]
    by_cases h0 : (takeN l).2.2 ≠ 0
    · rw [if_pos h0]; exact Nat.zero_le _
    · rw [if_neg h0]
      have h1 := take_pos (l := l) (by omega)
      have h2 := scanF_le f (l.drop (takeN l).2.1) (by rw [List.length_drop]; omega)
      rw [List.length_drop] at h2
      simp only []; omega
theorem scanN_le (l : List Nat) : (scanN l).2 ≤ l.length := scanF_le _ _ (Nat.le_refl _)
theorem all_comp {xs : List Blk} (h : ∀ x ∈ xs, BlkOk x) : xs.all (blkOk ∘ blkV) = true := by have := all_blk h; rwa [List.all_map] at this
theorem map_comp (xs : List Blk) : List.map (blkOf ∘ blkV) xs = xs := by have := map_blkOf xs; rwa [List.map_map] at this
theorem scanN_ok {l : List Nat} (hb : Bytes l) : (∀ x ∈ (scanN l).1, BlkOk x) ∧ (scanN l).1.length ≤ l.length := scanF_ok _ _ hb

theorem takes_law (xs0 : List AVal) (h : FitsL [.slice (.int .u8) 1 1] xs0) : ACall Try.prog 5 xs0 Sto.empty fun r _ => r = .bool true := by
  simp only [FitsL] at h
  obtain ⟨a, r, rfl, h, rfl⟩ := h
  obtain ⟨l, rfl, hb, hl⟩ := fits_bytes h
  refine takes_i _ _ (.of [awakeE, takeE, rtakeE, sameE, scanE, rscanE] rfl ⟨awake_ok, take_ok, rtake_ok, same_ok, scan_ok, rscan_ok, trivial⟩) ?_
  simp only [hold_eq, holdA_eq, map_blkOf, okS_same, bv_isU8, map_natOf_bv, bv_length, List.length_map, List.nil_append, Nat.zero_add]
  refine brV_by (fun _ => by simp) (fun h => ?_)
  have h2 : l.length ≤ 2000 := by simp at h; omega
  obtain ⟨s1, s2⟩ := scanN_ok hb
  obtain ⟨t1, t2, t3, _⟩ := take_bytes hb
  have hbk : blkOk (AVal.agg [AVal.int .u8 ((takeN l).1.1 : Int), AVal.slice (bv (takeN l).1.2) 1 .ro]) = true := blkOk_blkV ⟨t1, t2, t3⟩
  simp [hbk, all_bv hb, all_blk s1, show l.length ≤ 140737488351232 by omega, show l.length ≤ 140737488355328 by omega, show l.length ≤ 9223372036854775807 by omega, show l.length ≤ 100000000 by omega, show (scanN l).1.length ≤ 100000000 by omega]
  try (intro x y hxy; exact blkOk_blkV (s1 _ hxy))

theorem joins_law (xs0 : List AVal) (h : FitsL [.slice (.agg [.int .u8, .slice (.int .u8) 1 1]) 2 32, .slice (.int .u8) 1 1] xs0) : ACall Try.prog 6 xs0 Sto.empty fun r _ => r = .bool true := by
  simp only [FitsL] at h
  obtain ⟨a, r, rfl, h, a', r', rfl, h', rfl⟩ := h
  obtain ⟨xs, rfl, hl, hx⟩ := fits_blks h
  obtain ⟨l, rfl, hb, hl'⟩ := fits_bytes h'
  refine joins_i _ _ _ (.of [awakeE, smallE, allE, scanE, sameE] rfl ⟨awake_ok, small_ok, all_ok, scan_ok, same_ok, trivial⟩) ?_
  simp only [hold_eq, holdA_eq, map_blkOf, okS_same, bv_isU8, map_natOf_bv, bv_length, List.length_map, List.nil_append, Nat.zero_add, List.map_append, List.length_append]
  refine gb_by (by simp [all_blk0 hx, hl]) ?_
  cases hs : smallN xs with
  | false => simp
  | true =>
    obtain ⟨h20, hbx⟩ := small_ok' hx hs
    have hbk : ∀ x ∈ xs, BlkOk x := fun x hx => (hbx x hx).1
    have hsz := size_le fun x hx => (hbx x hx).2
    have hsc := scan_all hbk l
    obtain ⟨s1, s2⟩ := scanN_ok hb
    have hsl := scanN_le l
    refine brV_by (fun _ => by simp) (fun h => ?_)
    have hl2 : l.length ≤ 1000 := by simp at h; omega
    have e1 : IntKind.i64.wrap ((sizeN xs : Int) + ((scanN l).2 : Int)) = (sizeN xs : Int) + ((scanN l).2 : Int) := wrap_i64 (by omega) (by omega)
    have e2 : IntKind.i64.wrap ((xs.length : Int) + ((scanN l).1.length : Int)) = (xs.length : Int) + ((scanN l).1.length : Int) := wrap_i64 (by omega) (by omega)
    have e3 : ((xs.length : Int) + ((scanN l).1.length : Int)).toNat - xs.length = (scanN l).1.length := by omega
    have hs1 := all_comp s1
    have g1 : sizeN xs ≤ 140737488355328 := by omega
    have g2 : sizeN xs ≤ 9223372036854775807 := by omega
    have g3 : sizeN xs + l.length ≤ 140737488355328 := by omega
    have g4 : sizeN xs + l.length ≤ 9223372036854775807 := by omega
    have g5 : sizeN xs + l.length ≤ 100000000 := by omega
    have g6 : l.length ≤ 100000000 := by omega
    have g7 : xs.length ≤ 1000 := by omega
    have g8 : xs.length ≤ 100000000 := by omega
    have g9 : (scanN l).1.length ≤ 100000000 := by omega
    have g10 : (xs.length : Int) ≤ (xs.length : Int) + ((scanN l).1.length : Int) := by omega
    have g11 : List.take (scanN l).1.length (List.map blkV (scanN l).1) = List.map blkV (scanN l).1 := List.take_of_length_le (by simp)
    have ha := all_bv (allN_bytes hbk)
    have hbl := all_bv hb
    simp only [hsc, allN_length, List.map_append, List.length_append, List.length_map, Int.natCast_add, e1, e2]
    simp [e3, g1, g2, g3, g4, g5, g6, g7, g8, g9, g10, g11, all_comp hbk, hs1, map_comp, ha, hbl]

theorem pack_pre {x y : Blk} (hx : BlkOk x) (hy : BlkOk y) (n : Nat) (hn : n = min (packN x).length (packN y).length) : (packN x).take n = (packN y).take n ↔ x = y := by
  constructor
  · intro h
    have key : ∀ {x y : Blk}, BlkOk x → BlkOk y → (packN x).length ≤ (packN y).length → packN x = (packN y).take (packN x).length → x = y := by
      intro x y hx hy hl h
      have e : packN y = packN x ++ (packN y).drop (packN x).length := by conv => lhs; rw [← List.take_append_drop (packN x).length (packN y), ← h]
      have h1 := take_pack hx ((packN y).drop (packN x).length)
      have h2 := take_pack hy []
      rw [List.append_nil] at h2
      rw [← e, h2] at h1
      simp only [Prod.mk.injEq] at h1
      exact h1.1.symm
    rcases Nat.le_total (packN x).length (packN y).length with hl | hl
    · rw [Nat.min_eq_left hl] at hn
      subst hn
      rw [List.take_length] at h
      exact key hx hy hl h
    · rw [Nat.min_eq_right hl] at hn
      subst hn
      rw [List.take_length] at h
      exact (key hy hx hl h.symm).symm
  · rintro rfl; rfl

theorem apart_law (xs0 : List AVal) (h : FitsL [.agg [.int .u8, .slice (.int .u8) 1 1], .agg [.int .u8, .slice (.int .u8) 1 1]] xs0) : ACall Try.prog 4 xs0 Sto.empty fun r _ => r = .bool true := by
  simp only [FitsL] at h
  obtain ⟨a, r, rfl, h, a', r', rfl, h', rfl⟩ := h
  obtain ⟨⟨j, k⟩, rfl, hx⟩ := fits_blk h
  obtain ⟨⟨n, m⟩, rfl, hy⟩ := fits_blk h'
  refine apart_i _ _ _ _ _ (.of [awakeE, smallE, packE, sameE, sizeE] rfl ⟨awake_ok, small_ok, pack_ok, same_ok, size_ok, trivial⟩) ?_
  have ea : List.map blkOf [AVal.agg [AVal.int .u8 (j : Int), AVal.slice (bv k) 1 .ro]] = [(j, k)] := map_blkOf [(j, k)]
  have eb : List.map blkOf [AVal.agg [AVal.int .u8 (n : Int), AVal.slice (bv m) 1 .ro]] = [(n, m)] := map_blkOf [(n, m)]
  have eab : List.map blkOf [AVal.agg [AVal.int .u8 (j : Int), AVal.slice (bv k) 1 .ro], AVal.agg [AVal.int .u8 (n : Int), AVal.slice (bv m) 1 .ro]] = [(j, k), (n, m)] := map_blkOf [(j, k), (n, m)]
  have hab0 : [AVal.agg [AVal.int .u8 (j : Int), AVal.slice (bv k) 1 .ro], AVal.agg [AVal.int .u8 (n : Int), AVal.slice (bv m) 1 .ro]].all blkOk0 = true := all_blk0 (xs := [(j, k), (n, m)]) (by simpa using ⟨hx, hy⟩)
  have a1 : allN [(j, k)] = packN (j, k) := by simp [allN]
  have a2 : allN [(n, m)] = packN (n, m) := by simp [allN]
  have a3 : allN [(j, k), (n, m)] = packN (j, k) ++ packN (n, m) := by simp [allN]
  simp only [hold_eq, holdA_eq, ea, eb, eab, hab0, a1, a2, a3, okS_same, bv_isU8, map_natOf_bv, bv_length, List.length_map, List.nil_append, Nat.zero_add, List.map_append, List.length_append, Int.toNat_natCast]
  cases hs : smallN [(j, k), (n, m)] with
  | false => simp
  | true =>
    obtain ⟨_, hb⟩ := small_ok' (xs := [(j, k), (n, m)]) (by simpa using ⟨hx, hy⟩) hs
    obtain ⟨hbx, hlx⟩ := hb (j, k) (by simp)
    obtain ⟨hby, hly⟩ := hb (n, m) (by simp)
    have p1 := packN_length (j, k)
    have p2 := packN_length (n, m)
    simp only [] at p1 p2 hlx hly
    have b1 : [AVal.agg [AVal.int .u8 (j : Int), AVal.slice (bv k) 1 .ro]].all blkOk = true := all_blk (xs := [(j, k)]) (by simpa using hbx)
    have b2 : [AVal.agg [AVal.int .u8 (n : Int), AVal.slice (bv m) 1 .ro]].all blkOk = true := all_blk (xs := [(n, m)]) (by simpa using hby)
    have b3 : [AVal.agg [AVal.int .u8 (j : Int), AVal.slice (bv k) 1 .ro], AVal.agg [AVal.int .u8 (n : Int), AVal.slice (bv m) 1 .ro]].all blkOk = true := all_blk (xs := [(j, k), (n, m)]) (by simpa using ⟨hbx, hby⟩)
    have s1 : sizeN [(j, k)] = (packN (j, k)).length := by rw [p1]; simp [sizeN]
    have s2 : sizeN [(n, m)] = (packN (n, m)).length := by rw [p2]; simp [sizeN]
    have s3 : sizeN [(j, k), (n, m)] = (packN (j, k)).length + (packN (n, m)).length := by rw [p1, p2]; simp [sizeN]
    have hmin : (if ((packN (n, m)).length : Int) < ((packN (j, k)).length : Int) then ((packN (n, m)).length : Int) else ((packN (j, k)).length : Int)) = ((min (packN (j, k)).length (packN (n, m)).length : Nat) : Int) := by
      split <;> omega
    have hpre := pack_pre hbx hby _ rfl
    have by1 := packN_bytes hbx
    have by2 := packN_bytes hby
    simp only [b1, b2, b3, s1, s2, s3, bv_append, List.map_append, Int.natCast_add, hmin]
    generalize packN (j, k) = A at *
    generalize packN (n, m) = B at *
    have hq : ((bv (A.take (min A.length B.length))).map AL.byteOf == (bv (B.take (min A.length B.length))).map AL.byteOf) = decide ((j, k) = (n, m)) := by
      rw [bv_inj (bytes_take by1 _) (bytes_take by2 _)]
      exact decide_eq_decide.2 hpre
    have hr : ([(j, k)] == [(n, m)]) = decide ((j, k) = (n, m)) := by
      rw [Bool.eq_iff_iff]; simp
    have e1 : IntKind.i64.wrap ((A.length : Int) + (B.length : Int)) = (A.length : Int) + (B.length : Int) := wrap_i64 (by omega) (by omega)
    simp only [Int.toNat_natCast, Nat.sub_zero, List.drop_zero, ← bv_take, bv_isU8, hq, hr, e1]
    simp [show A.length + B.length ≤ 9223372036854775807 by omega]
    omega

def SumsC (ls : List (List Nat)) (x : Nat × List Nat) : Prop := x.1 ≤ ls.length ∧ x.2 = (ls.take x.1).flatten ∧ x.2.length ≤ x.1 * 1000

theorem sums_law (xs0 : List AVal) (h : FitsL [.slice (.slice (.int .u8) 1 1) 1 24] xs0) : ACall Try.prog 3 xs0 Sto.empty fun r _ => r = .bool true := by
  simp only [FitsL] at h
  obtain ⟨a, r, rfl, ⟨es, rfl, hl, h⟩, rfl⟩ := h
  obtain ⟨ls, rfl, hx⟩ := map_of (f := fun l => AVal.slice (bv l) 1 .ro) (P := fun l => Bytes l ∧ l.length ≤ 140737488351232) fun e he => fits_bytes (h e he)
  refine sums_i _ _ (.of [awakeE, sumE, rsumE] rfl ⟨awake_ok, sum_ok, rsum_ok, trivial⟩) ?_
  simp only [hold_eq, List.length_map]
  refine brV_by (fun _ => by simp) (fun h => ?_)
  have hle : ls.length ≤ 20 := by simp at h; omega
  refine loopV_intro (α := Nat × List Nat) (fun x => sumsL_S ls x.2 x.1) (SumsC ls) (fun x => ls.length - x.1) ?_ (0, []) ⟨Nat.zero_le _, rfl, Nat.zero_le _⟩
  rintro ⟨i, os⟩ ⟨hi, hos, hlen⟩ L hL
  simp only [] at hi hos hlen
  refine Eq.mpr (sumsL_r ls os i L _) ?_
  simp only [hold_eq, List.length_map]
  refine brV_by (fun h => ?_) (fun h => ?_)
  · have hlt : i < ls.length := by simpa using h
    have he : elemAt (ls.map fun l => AVal.slice (bv l) 1 .ro) (i : Int) = [.slice (bv ls[i]) 1 .ro] := by
      rw [elemAt_get (by simpa using hlt)]; simp [AVal.cells]
    rw [he]
    simp only [List.getD_cons_zero, AVal.elems, bv_length, i64_succ hlt (by omega)]
    refine gb_by (dt (by omega)) (gb_by rfl (brV_by (fun _ => rfl) (fun hk => ?_)))
    have hk : ls[i].length ≤ 1000 := by simp at hk; omega
    have := hL (i + 1, os ++ ls[i]) ⟨hlt, (by simp only []; rw [List.take_succ_eq_append_getElem hlt, List.flatten_append, ← hos]; simp only [List.flatten_cons, List.flatten_nil, List.append_nil]), (by simp; omega)⟩ (by simp only []; omega)
    simp only [sumsL_S, bv_append, List.length_append, bv_length] at this
    rw [setOwn_e1]
    exact gb_by (dt (by omega)) (gb_by rfl (gb_by (by simp; omega) this))
  · have hge : ¬ i < ls.length := by simpa using h
    refine leaveTo (toCut (Eq.mpr (sumsF_r ls os _) ?_))
    rw [List.take_of_length_le (by omega)] at hos
    have hall : (ls.map fun l => AVal.slice (bv l) 1 .ro).all bytesOk = true := by
      rw [List.all_eq_true]
      intro v hv
      obtain ⟨l, hl, rfl⟩ := List.mem_map.1 hv
      obtain ⟨h1, h2⟩ := hx l hl
      simp [bytesOk, all_bv h1, bv_length, h2]
    have hfl : (ls.map fun l => AVal.slice (bv l) 1 .ro).flatMap bytesV = os := by
      rw [hos, List.flatMap_map]
      simp only [bytesV, AVal.elems, map_natOf_bv]
      simp [List.flatMap_id']
    have hb : Bytes os := by
      intro x hx'
      rw [hos] at hx'
      obtain ⟨l, hl, hx2⟩ := List.mem_flatten.1 hx'
      exact (hx l hl).1 x hx2
    simp only [hold_eq, holdA_eq, hfl, hall, okS_same, map_natOf_bv, all_bv hb, bv_length, List.length_map]
    refine gb_by (by simp; omega) (gb_by (by simp; omega) ?_)
    simp
end Go.Proofs.Ytajnhcncggbanaa
