/-
  Seat 08 (block): typed contracts: blocks and bytes; how a contract over typed values serves calls.
-/
import Derived.Test.YtajnhcncggbanaaKf
import Derived.Test.YtajnhcncggbanaaKu
namespace Go.Proofs.Ytajnhcncggbanaa
open Go.AL
set_option linter.unusedSimpArgs false
set_option linter.unusedVariables false
set_option maxHeartbeats 4000000
set_option maxRecDepth 20000

theorem okS_same (n : Nat) (es : List AVal) : okS n n es = true := by simp [okS]
theorem blkV_cells (x : Blk) : (blkV x).cells = [.int .u8 (x.1 : Int), .slice (bv x.2) 1 .ro] := rfl
theorem wk_blk {v : AVal} (h : blkOk v = true) : WkL v.cells (blkV (blkOf v)).cells ∧ (blkV (blkOf v)).cells.length = v.cells.length := by
  obtain ⟨k, l, t, rfl, _, hb⟩ := blk_of h
  rw [hb]
  exact ⟨.cons (.refl _) (.cons (Wk.ro _ _ _) (.refl _)), rfl⟩
theorem wk_blks {n : Nat} {es : List AVal} (t : Tag) (hn : okS 2 n es = true) (h : es.all blkOk = true) : Wk (.slice es n t) (.slice ((es.map blkOf).map blkV) 2 .ro) := by
  rw [List.all_eq_true] at h
  simp only [okS, Bool.or_eq_true, beq_iff_eq] at hn
  rcases hn with rfl | hn
  · rw [List.map_map]
    exact Wk.elems fun e he => wk_blk (h e he)
  · have : es = [] := List.isEmpty_iff.1 hn
    subst this
    exact Wk.nil n 2 t
theorem blk_of0 {v : AVal} (h : blkOk0 v = true) : ∃ (k : Nat) (l : List Nat) (t : Tag), v = .agg [.int .u8 (k : Int), .slice (bv l) 1 t] ∧ (k < 256 ∧ Bytes l) ∧ blkOf v = (k, l) := by
  unfold blkOk0 at h
  split at h
  · rename_i k es s t
    simp only [Bool.and_eq_true, decide_eq_true_eq, beq_iff_eq] at h
    obtain ⟨⟨h0, h1⟩, rfl, h2⟩ := h
    obtain ⟨l, rfl, hb⟩ := bv_of h2
    refine ⟨k.toNat, l, t, ?_, ⟨by omega, hb⟩, by simp [blkOf, map_natOf_bv]⟩
    rw [show ((k.toNat : Nat) : Int) = k by omega]
  · cases h
theorem wk_blk0 {v : AVal} (h : blkOk0 v = true) : WkL v.cells (blkV (blkOf v)).cells ∧ (blkV (blkOf v)).cells.length = v.cells.length := by
  obtain ⟨k, l, t, rfl, _, hb⟩ := blk_of0 h
  rw [hb]
  exact ⟨.cons (.refl _) (.cons (Wk.ro _ _ _) (.refl _)), rfl⟩
theorem wk_blks0 {n : Nat} {es : List AVal} (t : Tag) (hn : okS 2 n es = true) (h : es.all blkOk0 = true) : Wk (.slice es n t) (.slice ((es.map blkOf).map blkV) 2 .ro) := by
  rw [List.all_eq_true] at h
  simp only [okS, Bool.or_eq_true, beq_iff_eq] at hn
  rcases hn with rfl | hn
  · rw [List.map_map]
    exact Wk.elems fun e he => wk_blk0 (h e he)
  · have : es = [] := List.isEmpty_iff.1 hn
    subst this
    exact Wk.nil n 2 t
theorem wk_bytes {n : Nat} {es : List AVal} (t : Tag) (hn : okS 1 n es = true) (h : es.all byteOk = true) : Wk (.slice es n t) (.slice (bv (es.map natOf)) 1 .ro) := by
  obtain ⟨l, rfl, _⟩ := bv_of h
  rw [map_natOf_bv]
  exact wkS t hn
theorem blks_ok {es : List AVal} (h : es.all blkOk = true) : ∀ x ∈ es.map blkOf, BlkOk x := fun x hx => by
  obtain ⟨v, hv, rfl⟩ := List.mem_map.1 hx
  obtain ⟨k, l, t, _, hb, hbo⟩ := blk_of (List.all_eq_true.1 h v hv)
  rw [hbo]; exact hb
theorem bytes_ok {es : List AVal} (h : es.all byteOk = true) : Bytes (es.map natOf) := by
  obtain ⟨l, rfl, hb⟩ := bv_of h
  rwa [map_natOf_bv]
theorem all_blk {xs : List Blk} (h : ∀ x ∈ xs, BlkOk x) : (xs.map blkV).all blkOk = true := by
  rw [List.all_eq_true]
  intro v hv
  obtain ⟨x, hx, rfl⟩ := List.mem_map.1 hv
  obtain ⟨h1, h2, h3⟩ := h x hx
  simp [blkOk, blkV, all_bv h2, bv_length, h3]; omega
theorem blkOf_blkV (x : Blk) : blkOf (blkV x) = x := by simp [blkOf, blkV, map_natOf_bv]
theorem map_blkOf (xs : List Blk) : (xs.map blkV).map blkOf = xs := by
  rw [List.map_map]
  conv => rhs; rw [← List.map_id xs]
  congr 1
  funext x; exact blkOf_blkV x
theorem noOut_bv (n : Nat) (l : List Nat) (s : Nat) (t : Tag) : (AVal.slice (bv l) s t).noOut n = true := by simp [AVal.noOut, bv_noOut]
theorem noOut_blks (n : Nat) (xs : List Blk) : noOutL n (xs.map blkV) = true := by
  induction xs with
  | nil => rfl
  | cons x xs ih => simp [noOutL, blkV, AVal.noOut, bv_noOut, ih]
theorem noTok_blks (n : Nat) (xs : List Blk) : noTokL n (xs.map blkV) = true := by
  induction xs with
  | nil => rfl
  | cons x xs ih => simp [noTokL, blkV, AVal.noTok, bv_noTok, Tag.below, ih]
theorem seal_bv (n : Nat) (l : List Nat) : sealL n (bv l) = bv l := sealL_noTok _ (bv_noTok n l)
theorem seal_blks (n : Nat) (xs : List Blk) : sealL n (xs.map blkV) = xs.map blkV := sealL_noTok _ (noTok_blks n xs)
theorem elemAt_blk (xs : List Blk) (i : Nat) (h : i < xs.length) : elemAt (xs.map blkV) (i : Int) = [.int .u8 ((xs[i].1 : Nat) : Int), .slice (bv xs[i].2) 1 .ro] := by
  rw [elemAt_get (by simpa using h)]
  simp [blkV, AVal.cells]
theorem i64_succ {i n : Nat} (h : i < n) (hn : n ≤ 140737488351232) : IntKind.i64.wrap ((i : Int) + 1) = ((i + 1 : Nat) : Int) := by rw [wrap_i64 (by omega) (by omega)]; rfl
theorem bv_inj {a b : List Nat} (ha : Bytes a) (hb : Bytes b) : ((bv a).map AL.byteOf == (bv b).map AL.byteOf) = decide (a = b) := by
  have e : ∀ l : List Nat, Bytes l → ((bv l).map AL.byteOf).map UInt8.toNat = l := by
    intro l hl
    simp only [bv, List.map_map]
    conv => rhs; rw [← List.map_id l]
    apply List.map_congr_left
    intro x hx
    have := hl x hx
    simp [AL.byteOf]; omega
  rw [Bool.eq_iff_iff]
  simp only [beq_iff_eq, decide_eq_true_eq]
  constructor
  · intro h
    rw [← e a ha, ← e b hb, h]
  · rintro rfl; rfl

/-- A contract over the empty store, and its arguments said less exactly. -/
theorem pcall_of {f : FuncId} {args args' : List AVal} {v : AVal} (hw : WkL args args') (h : ACall Try.prog f args' Sto.empty fun r _ => Wk r v) (ho : noOutL 0 args' = true) (ht : noTokL 0 args' = true) (hv : v.noOut 0 = true) (hv2 : v.noTok 0 = true) : PCall Try.prog f args v := by
  intro σ
  refine ACall.args ?_ hw
  have hs := sealL_noTok args' ht
  exact ACall.ofEmpty (by rw [hs]; exact h) (by rw [hs]; exact ho) hv hv2 (fun r τ hq => hq) σ
end Go.Proofs.Ytajnhcncggbanaa
