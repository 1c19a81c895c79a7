/-
  Seat 08 (block): contracts: takes, scans.
-/
import Derived.Test.YtajnhcncggbanaaKt
namespace Go.Proofs.Ytajnhcncggbanaa
open Go.AL
set_option linter.unusedSimpArgs false
set_option linter.unusedVariables false
set_option maxHeartbeats 4000000
set_option maxRecDepth 20000

theorem take_drop_all {α : Type} (l : List α) (n : Nat) : List.take (l.length - n) (l.drop n) = l.drop n := List.take_of_length_le (by simp)
theorem bytes_drop {l : List Nat} (h : Bytes l) (n : Nat) : Bytes (l.drop n) := fun x hx => h x (List.mem_of_mem_drop hx)
theorem bytes_take {l : List Nat} (h : Bytes l) (n : Nat) : Bytes (l.take n) := fun x hx => h x (List.mem_of_mem_take hx)
def takeV (x : Blk × Nat × Nat) : AVal := .tuple [.agg [.int .u8 ((x.1.1 : Nat) : Int), .slice (bv x.1.2) 1 .ro], .int .i64 ((x.2.1 : Nat) : Int), .int .i64 ((x.2.2 : Nat) : Int)]
theorem wk_take0 (e : Int) (s : Nat) (t : Tag) : Wk (.tuple [.agg [.int .u8 0, .slice [] s t], .int .i64 0, .int .i64 e]) (.tuple [.agg [.int .u8 0, .slice [] 1 .ro], .int .i64 0, .int .i64 e]) :=
  .tuple (.cons (.agg (.cons (.refl _) (.cons (Wk.nil _ _ _) (.refl _)))) (.refl _))

theorem dt {p : Prop} [Decidable p] (h : p) : decide p = true := decide_eq_true h

theorem take_c (l : List Nat) (hb : Bytes l) (hl : l.length ≤ 140737488351232) : ACall Try.prog 15 [.slice (bv l) 1 .ro] Sto.empty fun r _ => Wk r (takeV (takeN l)) := by
  refine take_i _ _ (.of [sumE, wordE, cloneE] rfl ⟨sum_ok, word_ok, clone_ok, trivial⟩) ?_
  simp only [hold_eq, holdA_eq, bv_length, Int.toNat_natCast, ← bv_drop, ← bv_take, map_natOf_bv, take_drop_all]
  unfold takeN
  refine brV_by (fun h => ?_) (fun h => ?_)
  · have h0 : l.length = 0 := by simp at h; simp [h]
    rw [if_pos h0]; exact wk_take0 _ _ _
  have h0 : ¬ l.length = 0 := by simp at h; simpa using h
  rw [if_neg h0, show elemAt (bv l) 0 = _ from elemAt_bv l 0 (by omega)]
  have hg : l.getD 0 0 = l[0]'(by omega) := by simp [List.getD, show 0 < l.length by omega]
  simp only [List.getD_cons_zero, AVal.intOf]
  rw [hg]
  refine gb_by (dt (by omega)) (gb_by rfl (brV_by (fun h => ?_) (fun h => ?_)))
  · have hm : l[0] ≠ 203 := by simp at h; omega
    rw [if_pos hm]; exact wk_take0 _ _ _
  have hm : ¬ l[0] ≠ 203 := by simp at h; omega
  rw [if_neg hm]
  refine brV_by (fun h => ?_) (fun h => ?_)
  · have h6 : l.length < 6 := by simp at h; omega
    rw [if_pos h6]; exact wk_take0 _ _ _
  have h6 : ¬ l.length < 6 := by simp at h; omega
  have hw := (four_word (l.drop 2) (by simp; omega) (bytes_drop hb 2)).2
  rw [if_neg h6]
  generalize hw' : wordN (l.drop 2) = w at hw ⊢
  refine gb_by (dt (by omega)) (gb_by (by simp [okS_same, all_bv (bytes_drop hb 2), bv_length]; omega) (brV_by (fun h => ?_) (fun h => ?_)))
  · have hk : 1048576 < w := by simp at h; omega
    rw [if_pos hk]; exact wk_take0 _ _ _
  have hk : ¬ 1048576 < w := by simp at h; omega
  rw [if_neg hk]
  simp (disch := omega) only [wrap_i64]
  refine brV_by (fun h => ?_) (fun h => ?_)
  · have hs : l.length < w + 10 := by simp at h; omega
    rw [if_pos hs]; exact wk_take0 _ _ _
  have hs : ¬ l.length < w + 10 := by simp at h; omega
  rw [if_neg hs]
  have e1 : ((w : Int) + 10 - 4).toNat = w + 6 := by omega
  simp only [e1, Nat.sub_zero, List.drop_zero]
  have hcb : [AVal.slice (bv (l.take (w + 6))) 1 Tag.ro].flatMap bytesV = l.take (w + 6) := by simp [bytesV, AVal.elems, map_natOf_bv]
  rw [hcb]
  refine gb_by (dt (by omega)) (gb_by (by simp [okS_same, all_bv (bytes_drop hb _), bv_length]; omega) (gb_by (dt (by omega)) (gb_by (by simp [okS_same, bytesOk, all_bv (bytes_take hb _), bv_length]; omega) (brV_by (fun h => ?_) (fun h => ?_)))))
  · have hc : wordN (l.drop (w + 6)) ≠ crcN (l.take (w + 6)) := by simp at h; omega
    rw [if_pos hc]; exact wk_take0 _ _ _
  have hc : ¬ wordN (l.drop (w + 6)) ≠ crcN (l.take (w + 6)) := by simp at h; omega
  rw [if_neg hc, show elemAt (bv l) 1 = _ from elemAt_bv l 1 (by omega)]
  have hg : l.getD 1 0 = l[1]'(by omega) := by simp [List.getD, show 1 < l.length by omega]
  have e2 : w + 6 - 6 = w := by omega
  simp only [e2, List.getD_cons_zero]
  refine gb_by (dt (by omega)) (gb_by rfl (gb_by (dt (by omega)) (gb_by (by simp [okS_same, all_bv (bytes_take (bytes_drop hb _) _), bv_length]; omega) ?_)))
  rw [hg]
  exact Wk.refl _

theorem word_get (l : List Nat) (h : 6 ≤ l.length) : wordN (l.drop 2) = ((l[2]'(by omega) * 256 + l[3]'(by omega)) * 256 + l[4]'(by omega)) * 256 + l[5]'(by omega) := by
  simp [wordN, List.getD, List.getElem?_drop, show 2 < l.length by omega, show 3 < l.length by omega, show 4 < l.length by omega, show 5 < l.length by omega]

theorem rfour_bv (n : Nat) (h : n < 4294967296) : [AVal.int .u8 (IntKind.u8.wrap (IntKind.u32.wrap ((n : Int).tdiv 16777216))), .int .u8 (IntKind.u8.wrap (IntKind.u32.wrap ((n : Int).tdiv 65536))), .int .u8 (IntKind.u8.wrap (IntKind.u32.wrap ((n : Int).tdiv 256))), .int .u8 (IntKind.u8.wrap (n : Int))] = bv (fourN n) := by
  have e : ∀ d : Nat, 0 < d → IntKind.u8.wrap (IntKind.u32.wrap (Int.tdiv (n : Int) (d : Int))) = ((n / d % 256 : Nat) : Int) := by
    intro d hd
    have h1 : n / d ≤ n := Nat.div_le_self _ _
    have h2 : Int.tdiv (n : Int) (d : Int) = ((n / d : Nat) : Int) := by rw [Int.tdiv_eq_ediv_of_nonneg (by omega)]; rfl
    generalize n / d = q at h1 h2 ⊢
    rw [h2, wrap_u32_of (by omega) (by omega), IntKind.wrap_u8']
    rfl
  have e1 : IntKind.u8.wrap (IntKind.u32.wrap (Int.tdiv (n : Int) 16777216)) = ((n / 16777216 % 256 : Nat) : Int) := e 16777216 (by decide)
  have e2 : IntKind.u8.wrap (IntKind.u32.wrap (Int.tdiv (n : Int) 65536)) = ((n / 65536 % 256 : Nat) : Int) := e 65536 (by decide)
  have e3 : IntKind.u8.wrap (IntKind.u32.wrap (Int.tdiv (n : Int) 256)) = ((n / 256 % 256 : Nat) : Int) := e 256 (by decide)
  rw [e1, e2, e3, IntKind.wrap_u8']
  simp [bv, fourN]

theorem rtake_c (l : List Nat) (hb : Bytes l) (hl : l.length ≤ 140737488351232) : ACall Try.prog 16 [.slice (bv l) 1 .ro] Sto.empty fun r _ => Wk r (takeV (takeN l)) := by
  refine rtake_i _ _ (.of [rsumE, rfourE] rfl ⟨rsum_ok, rfour_ok, trivial⟩) ?_
  simp only [hold_eq, holdA_eq, bv_length, Int.toNat_natCast, ← bv_drop, ← bv_take, map_natOf_bv, take_drop_all]
  unfold takeN
  refine brV_by (fun h => ?_) (fun h => ?_)
  · have h0 : l.length = 0 := by simp at h; simp [h]
    rw [if_pos h0]; exact wk_take0 _ _ _
  have h0 : ¬ l.length = 0 := by simp at h; simpa using h
  rw [if_neg h0, show elemAt (bv l) 0 = _ from elemAt_bv l 0 (by omega)]
  have hg : l.getD 0 0 = l[0]'(by omega) := by simp [List.getD, show 0 < l.length by omega]
  simp only [List.getD_cons_zero, AVal.intOf]
  rw [hg]
  refine gb_by (dt (by omega)) (gb_by rfl (brV_by (fun h => ?_) (fun h => ?_)))
  · have hm : l[0] ≠ 203 := by simp at h; omega
    rw [if_pos hm]; exact wk_take0 _ _ _
  have hm : ¬ l[0] ≠ 203 := by simp at h; omega
  rw [if_neg hm]
  refine brV_by (fun h => ?_) (fun h => ?_)
  · have h6 : l.length < 6 := by simp at h; omega
    rw [if_pos h6]; exact wk_take0 _ _ _
  have h6 : ¬ l.length < 6 := by simp at h; omega
  rw [if_neg h6, show elemAt (bv l) 2 = _ from elemAt_bv l 2 (by omega), show elemAt (bv l) 3 = _ from elemAt_bv l 3 (by omega), show elemAt (bv l) 4 = _ from elemAt_bv l 4 (by omega), show elemAt (bv l) 5 = _ from elemAt_bv l 5 (by omega)]
  have b2 := hb l[2] (List.getElem_mem _)
  have b3 := hb l[3] (List.getElem_mem _)
  have b4 := hb l[4] (List.getElem_mem _)
  have b5 := hb l[5] (List.getElem_mem _)
  have hw := word_get l (by omega)
  have hw3 := (four_word (l.drop 2) (by simp; omega) (bytes_drop hb 2)).2
  simp only [List.getD_cons_zero, AVal.intOf]
  have hn : ∀ a b c d : Nat, (((a : Int) * (256 : Int) + (b : Int)) * (256 : Int) + (c : Int)) * (256 : Int) + (d : Int) = ((((a * 256 + b) * 256 + c) * 256 + d : Nat) : Int) := by intros; omega
  simp (disch := omega) only [wrap_i64]
  rw [hn, ← hw]
  generalize wordN (l.drop 2) = w at hw3 ⊢
  refine gb_by (dt (by omega)) (gb_by rfl (gb_by (dt (by omega)) (gb_by rfl (gb_by (dt (by omega)) (gb_by rfl (gb_by (dt (by omega)) (gb_by rfl (brV_by (fun h => ?_) (fun h => ?_)))))))))
  · have hk : 1048576 < w := by simp at h; omega
    rw [if_pos hk]; exact wk_take0 _ _ _
  have hk : ¬ 1048576 < w := by simp at h; omega
  rw [if_neg hk]
  refine brV_by (fun h => ?_) (fun h => ?_)
  · have hs : l.length < w + 10 := by simp at h; omega
    rw [if_pos hs]; exact wk_take0 _ _ _
  have hs : ¬ l.length < w + 10 := by simp at h; omega
  rw [if_neg hs]
  have e1 : ((w : Int) + 6).toNat = w + 6 := by omega
  have e2 : ((w : Int) + 10).toNat = w + 10 := by omega
  have e3 : w + 10 - (w + 6) = 4 := by omega
  have e4 : w + 6 - 6 = w := by omega
  simp only [e1, e2, e3, e4, Nat.sub_zero, List.drop_zero]
  have hcl := crcN_lt (bytes_take hb (w + 6))
  rw [rfour_bv _ hcl, bv_inj (fourN_bytes _) (bytes_take (bytes_drop hb _) _)]
  obtain ⟨g1, g2⟩ := four_word (l.drop (w + 6)) (by simp; omega) (bytes_drop hb _)
  have hiff : fourN (crcN (l.take (w + 6))) = List.take 4 (l.drop (w + 6)) ↔ wordN (l.drop (w + 6)) = crcN (l.take (w + 6)) := by
    rw [← g1]
    constructor
    · intro h
      have h1 := wordN_four _ hcl []
      have h2 := wordN_four _ g2 []
      rw [← h2, ← h1, h]
    · intro h; rw [h]
  refine gb_by (dt (by omega)) (gb_by (by simp [okS_same, all_bv (bytes_take hb _), bv_length]; omega) (gb_by (dt (by omega)) (gb_by (by simp [bv_isU8]) (brV_by (fun h => ?_) (fun h => ?_)))))
  · have hc : wordN (l.drop (w + 6)) ≠ crcN (l.take (w + 6)) := fun e => by rw [hiff.2 e] at h; simp at h
    rw [if_pos hc]; exact wk_take0 _ _ _
  have hc : ¬ wordN (l.drop (w + 6)) ≠ crcN (l.take (w + 6)) := fun e => by
    have : fourN (crcN (l.take (w + 6))) = List.take 4 (l.drop (w + 6)) := by simpa using h
    exact e (hiff.1 this)
  rw [if_neg hc, show elemAt (bv l) 1 = _ from elemAt_bv l 1 (by omega)]
  have hg : l.getD 1 0 = l[1]'(by omega) := by simp [List.getD, show 1 < l.length by omega]
  simp only [List.getD_cons_zero]
  refine gb_by (dt (by omega)) (gb_by rfl (gb_by (dt (by omega)) ?_))
  rw [hg]
  exact Wk.refl _

theorem noOut_takeV (n : Nat) (x : Blk × Nat × Nat) : (takeV x).noOut n = true := by simp [takeV, AVal.noOut, noOutL, bv_noOut]
theorem noTok_takeV (n : Nat) (x : Blk × Nat × Nat) : (takeV x).noTok n = true := by simp [takeV, AVal.noTok, noTokL, bv_noTok, Tag.below]

theorem take_ok : EntOk Try.prog takeE := by
  intro xs σ; simp only [takeE]; split
  · rename_i es s t
    intro hc
    simp only [Bool.and_eq_true, decide_eq_true_eq] at hc
    obtain ⟨hw, hall, hlen⟩ := hc
    simp only [holdA_eq]
    exact pcall_of (.cons (wk_bytes t hw hall) (.refl _)) (take_c _ (bytes_ok hall) (by simpa using hlen)) (by simp only [noOutL, noOut_bv, Bool.and_true]) (by simp [noTokL, AVal.noTok, bv_noTok, Tag.below]) (noOut_takeV 0 (takeN (es.map natOf))) (noTok_takeV 0 (takeN (es.map natOf)))
  · trivial

theorem rtake_ok : EntOk Try.prog rtakeE := by
  intro xs σ; simp only [rtakeE]; split
  · rename_i es s t
    intro hc
    simp only [Bool.and_eq_true, decide_eq_true_eq] at hc
    obtain ⟨hw, hall, hlen⟩ := hc
    simp only [holdA_eq]
    exact pcall_of (.cons (wk_bytes t hw hall) (.refl _)) (rtake_c _ (bytes_ok hall) (by simpa using hlen)) (by simp only [noOutL, noOut_bv, Bool.and_true]) (by simp [noTokL, AVal.noTok, bv_noTok, Tag.below]) (noOut_takeV 0 (takeN (es.map natOf))) (noTok_takeV 0 (takeN (es.map natOf)))
  · trivial

def scanV (x : List Blk × Nat) : AVal := .tuple [.slice (x.1.map blkV) 2 .ro, .int .i64 ((x.2 : Nat) : Int)]

def ScanC (l : List Nat) (x : List Blk × Nat) : Prop :=
  x.2 ≤ l.length ∧ x.1.length ≤ x.2 ∧ scanN l = (x.1 ++ (scanN (l.drop x.2)).1, x.2 + (scanN (l.drop x.2)).2)

theorem scanC_end {l : List Nat} {x : List Blk × Nat} (h : ScanC l x) (h0 : (takeN (l.drop x.2)).2.2 ≠ 0) : scanN l = x := by
  have := h.2.2
  rw [scanN_step (l.drop x.2), if_pos h0] at this
  rw [this]; simp
theorem scanC_step {l : List Nat} {x : List Blk × Nat} (h : ScanC l x) (h0 : (takeN (l.drop x.2)).2.2 = 0) : ScanC l (x.1 ++ [(takeN (l.drop x.2)).1], x.2 + (takeN (l.drop x.2)).2.1) ∧ 10 ≤ (takeN (l.drop x.2)).2.1 := by
  have hp := take_pos h0
  have h2 := h.2.2
  rw [scanN_step (l.drop x.2), if_neg (by omega)] at h2
  have h1 := h.1
  rw [List.length_drop] at hp
  refine ⟨⟨by simp only []; omega, by simp; have := h.2.1; omega, ?_⟩, hp.1⟩
  rw [h2, List.drop_drop]
  simp [Nat.add_assoc]

theorem scan_c (l : List Nat) (hb : Bytes l) (hl : l.length ≤ 100000000) : ACall Try.prog 17 [.slice (bv l) 1 .ro] Sto.empty fun r _ => Wk r (scanV (scanN l)) := by
  refine scan_i _ _ (.of [takeE] rfl ⟨take_ok, trivial⟩) ?_
  refine loopV_intro (α := List Blk × Nat) (fun x => scanL_S l x.1 x.2) (ScanC l) (fun x => l.length - x.2) ?_ ([], 0) ⟨Nat.zero_le _, Nat.zero_le _, by simp⟩
  rintro ⟨os, a⟩ hC L hL
  have hal : a ≤ l.length := hC.1
  have hos : os.length ≤ a := hC.2.1
  refine Eq.mpr (scanL_r l os a L _) ?_
  simp only [hold_eq, holdA_eq, bv_length, Int.toNat_natCast, ← bv_drop, ← bv_take, map_natOf_bv, take_drop_all, List.length_map]
  refine gb_by (dt (by omega)) (gb_by (by simp [okS_same, all_bv (bytes_drop hb a), bv_length]; omega) (brV_by (fun h => ?_) (fun h => ?_)))
  · have h0 : (takeN (l.drop a)).2.2 ≠ 0 := by simp at h; omega
    rw [scanC_end hC h0]
    exact .tuple (.cons (Wk.ro _ _ _) (.refl _))
  · have h0 : (takeN (l.drop a)).2.2 = 0 := by simp at h; omega
    obtain ⟨h1, h2⟩ := scanC_step hC h0
    have h3 : a + (takeN (l.drop a)).2.1 ≤ l.length := h1.1
    have h4 : 10 ≤ (takeN (l.drop a)).2.1 := h2
    refine gb_by (by simp; omega) ?_
    have := hL _ h1 (by simp only []; omega)
    simp only [scanL_S, List.map_append, List.map_cons, List.map_nil, List.length_append, List.length_map, List.length_cons, List.length_nil] at this
    rw [setOwn_e1, wrap_i64 (by omega) (by omega)]
    exact this

theorem rscan_c (l : List Nat) (hb : Bytes l) (hl : l.length ≤ 100000000) : ACall Try.prog 18 [.slice (bv l) 1 .ro] Sto.empty fun r _ => Wk r (scanV (scanN l)) := by
  refine rscan_i _ _ (.of [rtakeE] rfl ⟨rtake_ok, trivial⟩) ?_
  refine loopV_intro (α := List Blk × Nat) (fun x => rscanL_S l x.1 x.2) (ScanC l) (fun x => l.length - x.2) ?_ ([], 0) ⟨Nat.zero_le _, Nat.zero_le _, by simp⟩
  rintro ⟨os, a⟩ hC L hL
  have hal : a ≤ l.length := hC.1
  have hos : os.length ≤ a := hC.2.1
  refine Eq.mpr (rscanL_r l os a L _) ?_
  simp only [hold_eq, holdA_eq, bv_length, Int.toNat_natCast, ← bv_drop, ← bv_take, map_natOf_bv, take_drop_all, List.length_map]
  refine gb_by (dt (by omega)) (gb_by (by simp [okS_same, all_bv (bytes_drop hb a), bv_length]; omega) (brV_by (fun h => ?_) (fun h => ?_)))
  · have h0 : (takeN (l.drop a)).2.2 ≠ 0 := by simp at h; omega
    rw [scanC_end hC h0]
    exact .tuple (.cons (Wk.ro _ _ _) (.refl _))
  · have h0 : (takeN (l.drop a)).2.2 = 0 := by simp at h; omega
    obtain ⟨h1, h2⟩ := scanC_step hC h0
    have h3 : a + (takeN (l.drop a)).2.1 ≤ l.length := h1.1
    have h4 : 10 ≤ (takeN (l.drop a)).2.1 := h2
    refine gb_by (by simp; omega) ?_
    have := hL _ h1 (by simp only []; omega)
    simp only [rscanL_S, List.map_append, List.map_cons, List.map_nil, List.length_append, List.length_map, List.length_cons, List.length_nil] at this
    rw [setOwn_e1, wrap_i64 (by omega) (by omega)]
    exact this

theorem noOut_scanV (n : Nat) (x : List Blk × Nat) : (scanV x).noOut n = true := by simp only [scanV, AVal.noOut, noOutL, noOut_blks, Bool.and_true]
theorem noTok_scanV (n : Nat) (x : List Blk × Nat) : (scanV x).noTok n = true := by simp only [scanV, AVal.noTok, noTokL, noTok_blks, Bool.and_true, Tag.below]

theorem scan_ok : EntOk Try.prog scanE := by
  intro xs σ; simp only [scanE]; split
  · rename_i es s t
    intro hc
    simp only [Bool.and_eq_true, decide_eq_true_eq] at hc
    obtain ⟨hw, hall, hlen⟩ := hc
    simp only [holdA_eq]
    exact pcall_of (.cons (wk_bytes t hw hall) (.refl _)) (scan_c _ (bytes_ok hall) (by simpa using hlen)) (by simp only [noOutL, noOut_bv, Bool.and_true]) (by simp [noTokL, AVal.noTok, bv_noTok, Tag.below]) (noOut_scanV 0 (scanN (es.map natOf))) (noTok_scanV 0 (scanN (es.map natOf)))
  · trivial

theorem rscan_ok : EntOk Try.prog rscanE := by
  intro xs σ; simp only [rscanE]; split
  · rename_i es s t
    intro hc
    simp only [Bool.and_eq_true, decide_eq_true_eq] at hc
    obtain ⟨hw, hall, hlen⟩ := hc
    simp only [holdA_eq]
    exact pcall_of (.cons (wk_bytes t hw hall) (.refl _)) (rscan_c _ (bytes_ok hall) (by simpa using hlen)) (by simp only [noOutL, noOut_bv, Bool.and_true]) (by simp [noTokL, AVal.noTok, bv_noTok, Tag.below]) (noOut_scanV 0 (scanN (es.map natOf))) (noTok_scanV 0 (scanN (es.map natOf)))
  · trivial
end Go.Proofs.Ytajnhcncggbanaa
