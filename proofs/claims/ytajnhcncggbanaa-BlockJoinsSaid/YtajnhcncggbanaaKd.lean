/-
  Seat 08 (block): contracts: blocks as bytes.
-/
import Derived.Test.YtajnhcncggbanaaKc
import Derived.Test.YtajnhcncggbanaaKq
namespace Go.Proofs.Ytajnhcncggbanaa
open Go.AL
set_option linter.unusedSimpArgs false
set_option linter.unusedVariables false
set_option maxHeartbeats 4000000
set_option maxRecDepth 20000

theorem blk_of {v : AVal} (h : blkOk v = true) : ∃ (k : Nat) (l : List Nat) (t : Tag), v = .agg [.int .u8 (k : Int), .slice (bv l) 1 t] ∧ BlkOk (k, l) ∧ blkOf v = (k, l) := by
  unfold blkOk at h
  split at h
  · rename_i k es s t
    simp only [Bool.and_eq_true, decide_eq_true_eq, beq_iff_eq] at h
    obtain ⟨⟨h0, h1⟩, ⟨rfl, h2⟩, h3⟩ := h
    obtain ⟨l, rfl, hb⟩ := bv_of h2
    refine ⟨k.toNat, l, t, ?_, ⟨by simp only []; omega, hb, by simpa [bv_length] using h3⟩, by simp [blkOf, map_natOf_bv]⟩
    rw [show ((k.toNat : Nat) : Int) = k by omega]
  · cases h

theorem allN_take {xs : List Blk} {i : Nat} (h : i < xs.length) : allN (xs.take (i + 1)) = allN (xs.take i) ++ packN xs[i] := by
  rw [List.take_succ_eq_append_getElem h]
  simp only [allN, List.flatMap_append, List.flatMap_cons, List.flatMap_nil, List.append_nil]

theorem allN_len {xs : List Blk} (h : ∀ x ∈ xs, BlkOk x) (i : Nat) : (allN (xs.take i)).length ≤ i * 1048586 := by
  induction i with
  | zero => simp [allN]
  | succ i ih =>
    by_cases hi : i < xs.length
    · rw [allN_take hi, List.length_append, packN_length, Nat.succ_mul]
      have := (h xs[i] (List.getElem_mem hi)).2.2
      generalize i * 1048586 = z at ih ⊢
      omega
    · rw [List.take_of_length_le (by omega)] at ih ⊢
      rw [Nat.succ_mul]
      generalize i * 1048586 = z at ih ⊢
      omega

theorem four_bv (n : Nat) (h : n < 4294967296) : four (n : Int) = bv (fourN n) := by
  simp only [four, bv, fourN, List.map_cons, List.map_nil]
  have e : ∀ d : Nat, 0 < d → IntKind.u8.wrap (Int.fdiv (n : Int) (d : Int)) = ((n / d % 256 : Nat) : Int) := by
    intro d hd
    rw [Int.fdiv_eq_ediv_of_nonneg _ (by omega), IntKind.wrap_u8']
    omega
  have e1 : IntKind.u8.wrap (Int.fdiv (n : Int) 16777216) = ((n / 16777216 % 256 : Nat) : Int) := e 16777216 (by decide)
  have e2 : IntKind.u8.wrap (Int.fdiv (n : Int) 65536) = ((n / 65536 % 256 : Nat) : Int) := e 65536 (by decide)
  have e3 : IntKind.u8.wrap (Int.fdiv (n : Int) 256) = ((n / 256 % 256 : Nat) : Int) := e 256 (by decide)
  rw [e1, e2, e3, IntKind.wrap_u8']
  simp

theorem pack_head (o : List Nat) (k : Nat) (l : List Nat) (hle : l.length ≤ 1048576) : bv o ++ [AVal.int IntKind.u8 203, AVal.int IntKind.u8 (k : Int)] ++ [AVal.int IntKind.u8 (IntKind.u8.wrap (Int.fdiv (l.length : Int) 16777216)), AVal.int IntKind.u8 (IntKind.u8.wrap (Int.fdiv (l.length : Int) 65536)), AVal.int IntKind.u8 (IntKind.u8.wrap (Int.fdiv (l.length : Int) 256)), AVal.int IntKind.u8 (IntKind.u8.wrap (l.length : Int))] ++ bv l = bv (o ++ headN (k, l)) := by
  have h := four_bv l.length (by omega)
  simp only [four] at h
  rw [h]
  simp [headN, bv]
theorem pack_head0 (k : Nat) (l : List Nat) (hle : l.length ≤ 1048576) : [AVal.int IntKind.u8 203, AVal.int IntKind.u8 (k : Int), AVal.int IntKind.u8 (IntKind.u8.wrap (Int.fdiv (l.length : Int) 16777216)), AVal.int IntKind.u8 (IntKind.u8.wrap (Int.fdiv (l.length : Int) 65536)), AVal.int IntKind.u8 (IntKind.u8.wrap (Int.fdiv (l.length : Int) 256)), AVal.int IntKind.u8 (IntKind.u8.wrap (l.length : Int))] ++ bv l = bv (headN (k, l)) := pack_head [] k l hle
theorem pack_mid (o : List Nat) (k : Nat) (l : List Nat) : List.take (((bv (o ++ headN (k, l))).length : Int).toNat - ((bv o).length : Int).toNat) (List.drop ((bv o).length : Int).toNat (bv (o ++ headN (k, l)))) = bv (headN (k, l)) := by
  simp only [Int.toNat_natCast, bv_append, List.drop_left, List.length_append]
  rw [List.take_of_length_le (by omega)]
theorem pack_mid0 (k : Nat) (l : List Nat) : List.take (((bv (headN (k, l))).length : Int).toNat - 0) (List.drop 0 (bv (headN (k, l)))) = bv (headN (k, l)) := pack_mid [] k l
theorem pack_tail (o : List Nat) (k : Nat) (l : List Nat) (hb : BlkOk (k, l)) : bv (o ++ headN (k, l)) ++ [AVal.int IntKind.u8 (IntKind.u8.wrap (Int.fdiv (crcN (headN (k, l)) : Int) 16777216)), AVal.int IntKind.u8 (IntKind.u8.wrap (Int.fdiv (crcN (headN (k, l)) : Int) 65536)), AVal.int IntKind.u8 (IntKind.u8.wrap (Int.fdiv (crcN (headN (k, l)) : Int) 256)), AVal.int IntKind.u8 (IntKind.u8.wrap (crcN (headN (k, l)) : Int))] = bv (o ++ packN (k, l)) := by
  have h := four_bv (crcN (headN (k, l))) (crcN_lt (headN_bytes hb))
  simp only [four] at h
  rw [h, ← bv_append, packN, List.append_assoc]

def PackC (es : List AVal) (σ' : Sto) (x : Nat × Option (List Nat × Nat) × Sto) : Prop :=
  x.1 ≤ es.length ∧ x.2.2.obj = σ'.obj ∧ x.2.2.nobj = σ'.nobj ∧ (∀ q, q < σ'.nown → x.2.2.own q = σ'.own q) ∧
    match x.2.1 with
    | none => x.1 = 0 ∧ x.2.2.nown = σ'.nown
    | some (o, p) => o = allN ((es.map blkOf).take x.1) ∧ x.2.2.own p = some o.length ∧ p = σ'.nown

noncomputable def PackS (es : List AVal) (x : Nat × Option (List Nat × Nat) × Sto) : St :=
  match x.2.1 with
  | none => packN_S es x.1 x.2.2
  | some (o, p) => packO_S (bv o) p es x.1 x.2.2

theorem pack_ok : EntOk Try.prog packE := by
  intro xs σ; simp only [packE]; split
  · rename_i es s t
    intro hc σ'
    simp only [Bool.and_eq_true, decide_eq_true_eq, List.all_eq_true] at hc
    obtain ⟨hw, hall, hlen⟩ := hc
    refine ACall.args ?_ (wkS1 t hw)
    clear hw s t
    simp only [holdA_eq]
    have hxs : ∀ x ∈ es.map blkOf, BlkOk x := fun x hx => by
      obtain ⟨v, hv, rfl⟩ := List.mem_map.1 hx
      obtain ⟨k, l, t, _, h2, h3⟩ := blk_of (hall v hv)
      rw [h3]; exact h2
    refine ACall.pure (Q := fun r τ => τ.obj = σ'.obj ∧ (∀ q, q < σ'.nown → τ.own q = σ'.own q) ∧ ((allN (es.map blkOf) = [] ∧ r = .tuple [.slice [] 0 .nil, .int .i64 0]) ∨ ∃ p, r = .tuple [.slice (bv (allN (es.map blkOf))) 1 (.own p), .int .i64 0])) ?_ (by simp [AVal.noOut, noOutL, bv_noOut]) (by simp [AVal.noTok, noTokL, bv_noTok, Tag.below]) ?_
    · refine pack_i _ _ _ (.of [sumE, fourE] rfl ⟨sum_ok, four_ok, trivial⟩) ?_
      refine loopV_intro (α := Nat × Option (List Nat × Nat) × Sto) (PackS es) (PackC es σ') (fun x => es.length - x.1) ?_ (0, none, σ') ⟨Nat.zero_le _, rfl, rfl, fun _ _ => rfl, rfl, rfl⟩
      rintro ⟨i, o, τ⟩ hC L hL
      by_cases hlt : i < es.length
      · obtain ⟨k, l, t', hv, hb, hbo⟩ := blk_of (hall es[i] (List.getElem_mem hlt))
        have he : elemAt es (i : Int) = [.int .u8 (k : Int), .slice (bv l) 1 t'] := by rw [elemAt_get hlt, hv]; rfl
        have hle : l.length ≤ 1048576 := hb.2.2
        have hil : i < (es.map blkOf).length := by simpa using hlt
        have hstep : allN ((es.map blkOf).take (i + 1)) = allN ((es.map blkOf).take i) ++ packN (k, l) := by
          rw [allN_take hil]; simp [hbo]
        have hbig := allN_len hxs i
        have e1 : IntKind.i64.wrap ((i : Int) + 1) = ((i + 1 : Nat) : Int) := by rw [wrap_i64 (by omega) (by omega)]; rfl
        cases o with
        | some op =>
          obtain ⟨o, p⟩ := op
          obtain ⟨hi, hob, hno, hown, ho, hp, hpn⟩ := hC
          simp only [] at hi hob hno hown ho hp hpn
          rw [← ho] at hbig
          refine Eq.mpr (packO_r (bv o) p es i τ L _) ?_
          simp only [hold_eq, holdA_eq]
          refine brV_by (fun _ => ?_) (fun h => absurd h (by simpa using hlt))
          rw [he]
          simp only [AVal.elems, AVal.intOf, List.getD_cons_zero, List.getD_cons_succ, e1]
          refine gb_by (by simp; omega) (gb_by rfl (brV_by (fun h => absurd h (by simp [bv_length]; omega)) (fun _ => ?_)))
          have fin : ∀ (out : List AVal) (τ0 : Sto), out = bv (o ++ packN (k, l)) → τ0.obj = τ.obj → τ0.nobj = τ.nobj → (∀ q, q ≠ p → τ0.own q = τ.own q) → τ0.own p = some (o.length + (10 + l.length)) → L (packO_S out p es ((i + 1 : Nat) : Int) τ0) := by
            rintro _ τ0 rfl g1 g2 g3 g4
            refine hL (i + 1, some (o ++ packN (k, l), p), τ0) ⟨hlt, g1.trans hob, g2.trans hno, fun q hq => (g3 q (by omega)).trans (hown q hq), ?_, ?_, hpn⟩ (by simp; omega)
            · rw [hstep, ho]
            · simp only [List.length_append, packN_length]; exact g4
          have q1 : IntKind.u32.wrap ((bv l).length : Int) = ((l.length : Nat) : Int) := by rw [bv_length]; exact wrap_u32_of (by omega) (by omega)
          rw [q1]
          have hA := pack_head o k l hle
          have hB := pack_mid o k l
          rw [hA]
          rw [hB]
          have hcr : crcN ([AVal.slice (bv (headN (k, l))) 1 Tag.ro].flatMap bytesV) = crcN (headN (k, l)) := by
            simp only [List.flatMap_cons, List.flatMap_nil, List.append_nil, bytesV, AVal.elems, map_natOf_bv]
          rw [hcr]
          have hC2 := pack_tail o k l hb
          rw [hC2]
          repeat' (refine gb_by ?_ ?_)
          all_goals try (simp [hp, bv_length]; omega)
          · simp [okS, bytesOk, all_bv (headN_bytes hb), bv_length, headN_length]; omega
          · simp [bv_length, headN_length, List.length_append]; omega
          · refine fin _ _ rfl (by simp) (by simp) (fun q hq => by simp [hq]) (by simp [bv_length, headN_length]; omega)
        | none =>
          obtain ⟨hi, hob, hno, hown, hi0, hnn⟩ := hC
          simp only [] at hi hob hno hown hi0 hnn
          refine Eq.mpr (packN_r es i τ L _) ?_
          simp only [hold_eq, holdA_eq]
          refine brV_by (fun _ => ?_) (fun h => absurd h (by simpa using hlt))
          rw [he]
          simp only [AVal.elems, AVal.intOf, List.getD_cons_zero, List.getD_cons_succ, e1]
          refine gb_by (by simp; omega) (gb_by rfl (brV_by (fun h => absurd h (by simp [bv_length]; omega)) (fun _ => ?_)))
          have q1 : IntKind.u32.wrap ((bv l).length : Int) = ((l.length : Nat) : Int) := by rw [bv_length]; exact wrap_u32_of (by omega) (by omega)
          rw [q1]
          have hA := pack_head0 k l hle
          have hB := pack_mid0 k l
          rw [hA]
          rw [hB]
          have hcr : crcN ([AVal.slice (bv (headN (k, l))) 1 Tag.ro].flatMap bytesV) = crcN (headN (k, l)) := by
            simp only [List.flatMap_cons, List.flatMap_nil, List.append_nil, bytesV, AVal.elems, map_natOf_bv]
          rw [hcr]
          have hC2 : _ = bv (packN (k, l)) := pack_tail [] k l hb
          simp only [List.nil_append] at hC2
          rw [hC2]
          repeat' (refine gb_by ?_ ?_)
          all_goals try (simp [bv_length]; omega)
          · simp
          · simp
          · simp [okS, bytesOk, all_bv (headN_bytes hb), bv_length, headN_length]; omega
          · simp [bv_length, headN_length]; omega
          · refine hL (i + 1, some (packN (k, l), τ.nown), _) ⟨hlt, (by simp; exact hob), (by simp; exact hno), fun q hq => ?_, ?_, ?_, hnn⟩ (by simp; omega)
            · have : q ≠ τ.nown := by omega
              simp [this]; exact hown q hq
            · rw [hstep, hi0]; simp [allN]
            · simp [bv_length, headN_length, packN_length]; omega
      · have hge : ¬ i < es.length := hlt
        cases o with
        | some op =>
          obtain ⟨o, p⟩ := op
          obtain ⟨hi, hob, hno, hown, ho, hp, hpn⟩ := hC
          simp only [] at hi hob hno hown ho hp hpn
          refine Eq.mpr (packO_r (bv o) p es i τ L _) ?_
          refine brV_by (fun h => absurd h (by simpa using hlt)) (fun h => ?_)
          refine leaveTo (toCut (Eq.mpr (packFO_r (bv o) p τ _) ?_))
          refine ⟨hob, hown, Or.inr ⟨p, ?_⟩⟩
          rw [ho, List.take_of_length_le (by simp; omega)]
        | none =>
          obtain ⟨hi, hob, hno, hown, hi0, hnn⟩ := hC
          simp only [] at hi hob hno hown hi0 hnn
          refine Eq.mpr (packN_r es i τ L _) ?_
          refine brV_by (fun h => absurd h (by simpa using hlt)) (fun h => ?_)
          refine leaveTo (toCut (Eq.mpr (packFN_r τ _) ?_))
          refine ⟨hob, hown, Or.inl ⟨?_, rfl⟩⟩
          have : es = [] := List.eq_nil_of_length_eq_zero (by omega)
          rw [this]; rfl
    · rintro r τ ⟨h1, h2, h3⟩
      refine ⟨?_, fun i _ => by rw [h1], h2⟩
      rcases h3 with ⟨h3, rfl⟩ | ⟨p, rfl⟩
      · rw [h3]; exact .tuple (.cons (Wk.nil _ _ _) (.refl _))
      · exact .tuple (.cons (Wk.ro _ _ _) (.refl _))
  · trivial
end Go.Proofs.Ytajnhcncggbanaa
