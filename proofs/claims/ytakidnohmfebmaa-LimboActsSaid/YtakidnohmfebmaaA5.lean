/-
  The abstract layer, part 5: soundness of the operations that leave the world alone (second half), and all of them together.
-/
import Derived.Test.YtakidnohmfebmaaA4
namespace Go.AL
noncomputable section
set_option linter.unusedSimpArgs false
set_option linter.unusedVariables false

theorem tElem_spec {P : Program} {T e n bs : Nat} {zs : List Value} (h : tElem P T = some (e, n, bs, zs)) : ∃ inf z, P.underlying T = some (.slice e) ∧ P.info? e = some inf ∧ inf.size = n ∧ inf.bytes = bs ∧ inf.zero = some z ∧ zs = z.cells.toList := by
  unfold tElem at h
  split at h
  · rename_i e' he
    split at h
    · rename_i inf hi
      split at h
      · rename_i z hz
        simp only [Option.some.injEq, Prod.mk.injEq] at h
        obtain ⟨rfl, rfl, rfl, rfl⟩ := h
        exact ⟨inf, z, he, hi, rfl, rfl, hz, rfl⟩
      · cases h
    · cases h
  · cases h

theorem tArr_spec {P : Program} {T m n : Nat} {g : Bool} (h : tArr P T = some (m, n, g)) : ∃ e inf, P.underlying T = some (.array m e) ∧ P.info? e = some inf ∧ inf.size = n ∧ tVar P e = some (n, g) := by
  unfold tArr at h
  split at h
  · rename_i m' e he
    split at h
    · rename_i inf g' hi hg
      simp only [Option.some.injEq, Prod.mk.injEq] at h
      obtain ⟨rfl, rfl, rfl⟩ := h
      first | replace hp := of_decide_eq_true hp | skip
      exact ⟨e, inf, he, hi, rfl, by simp [tVar, hi, hg]⟩
    · cases h
  · cases h

theorem getElem?_getD {α : Type} {l : List α} {i : Nat} (h : i < l.length) (d : α) : l[i]? = some (l.getD i d) := by
  simp [List.getD, List.getElem?_eq_getElem h]

/-- Element i's cells, among all cells of a slice. -/
theorem flat_elem {s : Nat} : ∀ {es : List AVal} (hs : ∀ e ∈ es, e.cells.length = s) {i : Nat} {e : AVal}, es[i]? = some e → ((flat es).drop (i * s)).take s = e.cells
  | [], _, i, e, h => by simp at h
  | x :: es, hs, 0, e, h => by
    simp only [List.getElem?_cons_zero, Option.some.injEq] at h
    subst h
    simp only [Nat.zero_mul, List.drop_zero, flat, List.flatMap_cons]
    rw [← hs x (by simp), List.take_left']
    rfl
  | x :: es, hs, i + 1, e, h => by
    have ih := flat_elem (es := es) (fun e he => hs e (by simp [he])) (i := i) (e := e) (by simpa using h)
    have hx := hs x (by simp)
    have : (flat (x :: es)).drop ((i + 1) * s) = (flat es).drop (i * s) := by
      simp only [flat, List.flatMap_cons]
      rw [List.drop_append_of_le_length' hx]
    rw [this]
    exact ih
where
  List.drop_append_of_le_length' {x : AVal} {r : List AVal} {s i : Nat} (hx : x.cells.length = s) : (x.cells ++ r).drop ((i + 1) * s) = r.drop (i * s) := by
    rw [Nat.succ_mul, Nat.add_comm, ← List.drop_drop, ← hx, List.drop_left']
    rfl

theorem indexAddrA_sound {P : Program} {γ : Gh} {w : World} {T : TypeId} {a ix : AVal} {u v : Value} (hu : Rep γ w true a u) (hv : Rep γ w true ix v) {p : Bool} {r : AVal} (h : indexAddrA P T a ix = some (p, r)) (hp : p) :
    Yields P γ w (Instr.indexAt T u v) r := by
  unfold indexAddrA at h
  split at h
  · rename_i k i
    cases hv
    split at h
    · rename_i es s tag
      split at h
      · rename_i e n bs zs he
        obtain ⟨inf, z, h1, h2, h3, _⟩ := tElem_spec he
        split at h
        · rename_i hns
          subst hns
          simp only [Option.some.injEq, Prod.mk.injEq] at h
          obtain ⟨rfl, rfl⟩ := h
          first | replace hp := of_decide_eq_true hp | skip
          have hi : i.toNat < es.length := by omega
          cases hu with
          | @sliceRow _ _ _ _ b off cap vs hr hs hc h1' hn hm ht =>
            have hge := getElem?_getD hi .undef
            have hfl := flat_elem hs hge
            refine ⟨.pointer (some ⟨b, off + i.toNat * n, none⟩), ?_, ?_⟩
            · simp [Instr.indexAt, asIntOf, run_underlying h1, hp.1, hp.2, sizeOf, typeInfo, h2, h3, addr_add]
            · have hr2 := (hr.drop (i.toNat * n)).take n
              rw [hfl] at hr2
              exact .iptr hr2 (fun v hv => h1' v (List.mem_of_mem_drop (List.mem_of_mem_take hv))) ((hc.drop _).take _)
          | sliceNil ht ho => simp at hi
        · cases h
      · cases h
    · rename_i o off len cap
      split at h
      · rename_i e n bs zs he
        obtain ⟨inf, z, h1, h2, h3, _⟩ := tElem_spec he
        simp only [Option.some.injEq, Prod.mk.injEq] at h
        obtain ⟨rfl, rfl⟩ := h
        first | replace hp := of_decide_eq_true hp | skip
        cases hu with
        | arr hb ho hn h0 =>
          obtain rfl := h0 (by omega)
          refine ⟨_, ?_, .ptr hb ho⟩
          simp [Instr.indexAt, asIntOf, run_underlying h1, hp.1, hp.2, sizeOf, typeInfo, h2, h3, addr_add]
      · cases h
    · rename_i o off
      split at h
      · rename_i m n g he
        obtain ⟨e, inf, h1, h2, h3, _⟩ := tArr_spec he
        simp only [Option.some.injEq, Prod.mk.injEq] at h
        obtain ⟨rfl, rfl⟩ := h
        first | replace hp := of_decide_eq_true hp | skip
        cases hu with
        | ptr hb ho =>
          refine ⟨_, ?_, .ptr hb ho⟩
          simp [Instr.indexAt, asIntOf, run_underlying h1, hp.1, hp.2, sizeOf, typeInfo, h2, h3, addr_add, Instr.sureAddr]
      · cases h
    · rename_i cs
      split at h
      · rename_i m n g he
        obtain ⟨e, inf, h1, h2, h3, _⟩ := tArr_spec he
        simp only [Option.some.injEq, Prod.mk.injEq] at h
        obtain ⟨rfl, rfl⟩ := h
        first | replace hp := of_decide_eq_true hp | skip
        cases hu with
        | @iptr _ _ vs b off hr h1' hc =>
          refine ⟨.pointer (some ⟨b, off + i.toNat * n, none⟩), ?_, .iptr (hr.drop _) (fun v hv => h1' v (List.mem_of_mem_drop hv)) (hc.drop _)⟩
          simp [Instr.indexAt, asIntOf, run_underlying h1, hp.1, hp.2, sizeOf, typeInfo, h2, h3, addr_add, Instr.sureAddr]
      · cases h
    · cases h
  · cases h

theorem indexA_sound {P : Program} {γ : Gh} {w : World} {T : TypeId} {a ix : AVal} {u v : Value} (hu : Rep γ w true a u) (hv : Rep γ w true ix v) {p : Bool} {r : AVal} (h : indexA P T a ix = some (p, r)) (hp : p) :
    Yields P γ w (Instr.index T u v) r := by
  unfold indexA at h
  split at h
  · rename_i k i
    cases hv
    split at h
    · rename_i s
      cases hu
      split at h
      · rename_i hs
        simp only [Option.some.injEq, Prod.mk.injEq] at h
        obtain ⟨rfl, rfl⟩ := h
        first | replace hp := of_decide_eq_true hp | skip
        have hi : i.toNat < s.length := by omega
        have hsz : (ByteArray.mk s.toArray).size = s.length := by simp [ByteArray.size]
        have hget : (ByteArray.mk s.toArray)[i.toNat]? = some (s.getD i.toNat 0) := by
          rw [getElem?_pos _ _ (by rw [hsz]; exact hi)]
          simp [List.getD, List.getElem?_eq_getElem hi]
          rfl
        refine ⟨_, ?_, .int _ _ _⟩
        simp [Instr.index, asIntOf, run_underlying (isStr_spec hs), hp.1, hget]
      · cases h
    · rename_i cs
      split at h
      · rename_i m n g he
        obtain ⟨e, inf, h1, h2, h3, h4⟩ := tArr_spec he
        simp only [Option.some.injEq, Prod.mk.injEq] at h
        obtain ⟨rfl, rfl⟩ := h
        first | replace hp := of_decide_eq_true hp | skip
        cases hu with
        | agg hr h1' =>
          rename_i vs
          have hl := hr.length
          have hrun := run_part P w h4 vs (i.toNat * n) (fun _ => by omega)
          refine ⟨_, ?_, hr.part h1' (i.toNat * n) n g⟩
          simp [Instr.index, asIntOf, run_underlying h1, hp.1, hp.2.1, sizeOf, typeInfo, h2, h3, hrun]
      · cases h
    · cases h
  · cases h

theorem run_loadVar {P : Program} {w : World} {T n : Nat} {g : Bool} (ht : tVar P T = some (n, g)) (b off : Nat) (vs : List Value) (hv : ∀ j v, vs[j]? = some v → w.cell? ⟨b, off + j, none⟩ = some v) (hn : n ≤ vs.length) (h0 : 0 < n) :
    (loadVar T ⟨b, off, none⟩).run P w = .ok (partV vs 0 n g) w := by
  unfold tVar tIsAgg at ht
  cases hi : P.info? T with
  | none => simp [hi] at ht
  | some inf =>
    have hload := run_loadCells_list (P := P) w ⟨b, off, none⟩ (vs.take n) (fun j v hj => by
      rw [addr_add]
      rw [List.getElem?_take] at hj
      split at hj
      · exact hv j v hj
      · cases hj)
    rw [show (vs.take n).length = n by simp; omega] at hload
    have h1 : w.cell? ⟨b, off, none⟩ = some (vs.getD 0 undef) := by
      have hz : 0 < vs.length := by omega
      have := hv 0 (vs.getD 0 undef) (getElem?_getD hz _)
      simpa using this
    cases hu : P.underlying T with
    | none => simp [hi, hu] at ht
    | some d =>
      cases d <;> simp [hi, hu] at ht <;> obtain ⟨rfl, rfl⟩ := ht
      case array => simp [loadVar, isAgg, run_underlying hu, sizeOf, typeInfo, hi, partV, hload]
      case struct => simp [loadVar, isAgg, run_underlying hu, sizeOf, typeInfo, hi, partV, hload]
      all_goals (simp only [List.getD_eq_getElem?_getD] at h1; simp [loadVar, isAgg, run_underlying hu, h1, partV])

theorem partA_drop (cs : List AVal) (off n : Nat) (g : Bool) : partA (cs.drop off) 0 n g = partA cs off n g := by
  cases g <;> simp [partA, List.getD]

theorem etaC_sound {γ : Gh} {w : World} {l : Bool} {s : Sh} {v : AVal} {u : Value} (h : Rep γ w l v u) (ok : etaOk s v = true) : Rep γ w l (etaC s v) u := by
  cases s with
  | bool => cases h <;> first | exact .bool _ _ | (simp [etaOk] at ok)
  | int k => cases h <;> first | (simp [etaOk] at ok; done) | (simp [etaOk] at ok; subst ok; exact .int _ _ _)
  | str => cases h <;> first | exact .str _ _ | (simp [etaOk] at ok)
  | any => exact h
  | slice n =>
    simp only [etaOk, sliceOk] at ok
    split at ok
    · rename_i es s t
      simp only [Bool.or_eq_true, beq_iff_eq] at ok
      cases h with
      | sliceRow hr hs hc h1 hn hm ht =>
        have : s = n := by
          rcases ok with ok | ok
          · exact ok
          · cases t <;> simp [Tag.isNil] at ok
            exact ht.elim
        subst this
        exact .sliceRow hr hs hc h1 hn hm trivial
      | sliceNil ht ho => exact .sliceNil trivial (.inr rfl)
    · cases ok

theorem etaL_sound {γ : Gh} {w : World} {l : Bool} {cs : List AVal} {vs : List Value} (h : RepL γ w l cs vs) : ∀ (shs : List Sh) (i : Nat), etaOkL shs cs i = true → i + shs.length ≤ cs.length → RepL γ w l (etaL shs cs i) ((vs.drop i).take shs.length)
  | [], i, _, _ => by simpa [etaL] using RepL.nil l
  | s :: r, i, ok, hi => by
    simp only [etaOkL, Bool.and_eq_true] at ok
    simp only [List.length_cons] at hi
    have hlt : i < cs.length := by omega
    have hl := h.length
    obtain ⟨v, hv, hrep⟩ := h.get (List.getElem?_eq_getElem hlt)
    have e1 : cs.getD i .undef = cs[i] := by simp [List.getD, hlt]
    rw [e1] at ok
    have e2 : (vs.drop i).take (r.length + 1) = v :: (vs.drop (i + 1)).take r.length := by
      have hlv : i < vs.length := by omega
      rw [List.getElem?_eq_getElem hlv] at hv
      cases hv
      rw [List.drop_eq_getElem_cons hlv, List.take_succ_cons]
    simp only [etaL, List.length_cons, e2, e1]
    exact .cons (etaC_sound hrep ok.1) (etaL_sound h r (i + 1) ok.2 (by omega))

theorem loadV_sound {P : Program} {γ : Gh} {w : World} {l : Bool} {T : TypeId} {deep : Bool} {n : Nat} {g : Bool} {cs : List AVal} {vs : List Value} {off : Nat} (h : RepL γ w l cs vs) (h1 : ∀ v ∈ vs, v.oneCell' = true) (hn : off + n ≤ cs.length)
    (ok : (loadV P T deep n g cs off).1 = true) : Rep γ w l (loadV P T deep n g cs off).2 (partV vs off n g) := by
  have hp := RepL.part h h1 off n g
  unfold loadV at ok ⊢
  cases g with
  | false => exact etaC_sound hp ok
  | true =>
    simp only [] at ok ⊢
    split
    · rename_i shs hs
      rw [hs] at ok
      simp only [] at ok
      split
      · rename_i hl
        rw [if_pos hl] at ok
        subst hl
        exact .agg (etaL_sound h shs off ok hn) (fun v hv => h1 v (List.mem_of_mem_drop (List.mem_of_mem_take hv)))
      · exact hp
    · exact hp

theorem partV_drop (vs : List Value) (off n : Nat) (g : Bool) : partV (vs.drop off) 0 n g = partV vs off n g := by
  cases g <;> simp [partV]

theorem loadA_sound {P : Program} {γ : Gh} {w : World} {lk : Oid → Option AObj} (hk : Ok γ w lk) {T : TypeId} {a : AVal} {u : Value} (hu : Rep γ w true a u) {p : Bool} {r : AVal} (h : loadA P lk T a = some (p, r)) (hp : p) :
    Yields P γ w (Instr.loadAt T u) r := by
  unfold loadA at h
  split at h
  · rename_i n g ht
    split at h
    · rename_i cs
      simp only [Option.some.injEq, Prod.mk.injEq] at h
      obtain ⟨rfl, rfl⟩ := h
      simp only [Bool.and_eq_true] at hp
      obtain ⟨hp, hq⟩ := hp
      replace hp := of_decide_eq_true hp
      cases hu with
      | @iptr _ _ vs b off hr h1' hc =>
        have hl := hr.length
        refine ⟨_, ?_, (loadV_sound (hr.weaken true) h1' (by omega) hq)⟩
        simp only [Instr.loadAt, Instr.sureAddr, Sem.run_bind, Sem.run_pure, Result.andThen_ok]
        exact run_loadVar ht b off vs (fun j v hj => (hc j v hj).2) (by omega) hp.2
    · rename_i o off
      split at h
      · rename_i cs hcs
        simp only [Option.some.injEq, Prod.mk.injEq] at h
        obtain ⟨rfl, rfl⟩ := h
        simp only [Bool.and_eq_true] at hp
        obtain ⟨hp, hq⟩ := hp
        replace hp := of_decide_eq_true hp
        cases hu with
        | @ptr _ _ _ b hb ho =>
          obtain ⟨b', hb2, vs, T', hh, hr, h1', hni⟩ := hk.obj _ _ hcs (by simp)
          rw [hb] at hb2
          cases hb2
          have hl := hr.length
          have hr2 : RepL γ w true cs vs := by
            cases o with
            | loc k => exact hr
            | out k => exact hr.weaken true
          refine ⟨_, ?_, loadV_sound hr2 h1' (by omega) hq⟩
          simp only [Instr.loadAt, Instr.sureAddr, Sem.run_bind, Sem.run_pure, Result.andThen_ok]
          rw [← partV_drop]
          refine run_loadVar ht b off (vs.drop off) (fun j v hj => ?_) (by simp; omega) hp.2
          rw [List.getElem?_drop] at hj
          simp only [World.cell?, hh]
          simpa using hj
      · cases h
    · cases h
  · cases h

theorem boundA_spec {γ : Gh} {w : World} {ρA : Operand → AVal} {ρ : Operand → Value} (hρ : ∀ x, Rep γ w true (ρA x) (ρ x)) {d n : Int} {x : Option Operand} (h : boundA d (x.map ρA) = some n) :
    (x = none ∧ n = d) ∨ (∃ k y, x = some y ∧ ρA y = .int k n ∧ ρ y = .int k n) := by
  cases x with
  | none => simp [boundA] at h; exact .inl ⟨rfl, h.symm⟩
  | some y =>
    have hy := hρ y
    simp only [Option.map_some] at h
    unfold boundA at h
    split at h
    · rename_i e; cases e
    · rename_i k m e
      simp only [Option.some.injEq] at e h
      subst h
      rw [e] at hy
      cases hk : ρ y with
      | int k' n' => rw [hk] at hy; cases hy; exact .inr ⟨k, y, rfl, e, hk⟩
      | _ => rw [hk] at hy; cases hy
    · cases h

theorem run_sliceBound {P : Program} {w : World} (k : IntKind) (n : Int) (y : Nat) (c : BoundsCode) (h0 : 0 ≤ n) (h1 : n ≤ y) : (Instr.sliceBound (.int k n) y c).run P w = .ok n.toNat w := by
  simp [Instr.sliceBound, asIntOf, h0, h1]

/-- The bounds of a slice expression without a third index. -/
theorem run_sliceBounds {P : Program} {γ : Gh} {w : World} {ρA : Operand → AVal} {ρ : Operand → Value} (hρ : ∀ x, Rep γ w true (ρA x) (ρ x)) (is : Bool) (len cap : Nat) (hlc : len ≤ cap) {lo hi : Option Operand} {l h : Int}
    (hl : boundA 0 (lo.map ρA) = some l) (hh : boundA (len : Int) (hi.map ρA) = some h) (h1 : 0 ≤ l) (h2 : l ≤ h) (h3 : h ≤ cap) :
    (Instr.sliceBounds is len cap (lo.map ρ) (hi.map ρ) none).run P w = .ok (l.toNat, h.toNat, cap) w := by
  have hb : ∀ c : BoundsCode, (match (hi.map ρ) with | some v => Instr.sliceBound v cap c | none => pure len : Sem Nat).run P w = .ok h.toNat w := by
    intro c
    rcases boundA_spec hρ hh with ⟨rfl, rfl⟩ | ⟨k, y, rfl, _, hy⟩
    · simp
    · simp only [Option.map_some, hy]
      exact run_sliceBound k h cap c (by omega) (by omega)
  have hb2 : ∀ c : BoundsCode, (match (lo.map ρ) with | some v => Instr.sliceBound v h.toNat c | none => pure 0 : Sem Nat).run P w = .ok l.toNat w := by
    intro c
    rcases boundA_spec hρ hl with ⟨rfl, rfl⟩ | ⟨k, y, rfl, _, hy⟩
    · simp
    · simp only [Option.map_some, hy]
      exact run_sliceBound k l h.toNat c (by omega) (by omega)
  unfold Instr.sliceBounds
  simp only [Sem.run_bind, Sem.run_pure, Result.andThen_ok, Option.isSome_none, Bool.false_eq_true, if_false]
  have e1 := hb (if is then .sliceAcap else .sliceAlen)
  cases hx : hi.map ρ with
  | none =>
    rw [hx] at e1
    simp only [] at e1 ⊢
    rw [Sem.run_bind, e1]
    simp only [Result.andThen_ok]
    cases hy : lo.map ρ with
    | none => have := hb2 .sliceB; rw [hy] at this; simp only [] at this ⊢; rw [Sem.run_bind, this]; rfl
    | some v => have := hb2 .sliceB; rw [hy] at this; simp only [] at this ⊢; rw [Sem.run_bind, this]; rfl
  | some u =>
    rw [hx] at e1
    simp only [] at e1 ⊢
    rw [Sem.run_bind, e1]
    simp only [Result.andThen_ok]
    cases hy : lo.map ρ with
    | none => have := hb2 .sliceB; rw [hy] at this; simp only [] at this ⊢; rw [Sem.run_bind, this]; rfl
    | some v => have := hb2 .sliceB; rw [hy] at this; simp only [] at this ⊢; rw [Sem.run_bind, this]; rfl

/-- The bounds of a slice expression with a third index that is the second. -/
theorem run_sliceBounds3 {P : Program} {γ : Gh} {w : World} {ρA : Operand → AVal} {ρ : Operand → Value} (hρ : ∀ x, Rep γ w true (ρA x) (ρ x)) (len cap : Nat) (hlc : len ≤ cap) {lo : Option Operand} {l h : Int} {k k' : IntKind}
    (hl : boundA 0 (lo.map ρA) = some l) (h1 : 0 ≤ l) (h2 : l ≤ h) (h3 : h ≤ len) :
    (Instr.sliceBounds true len cap (lo.map ρ) (some (.int k h)) (some (.int k' h))).run P w = .ok (l.toNat, h.toNat, h.toNat) w := by
  have hb2 : ∀ c : BoundsCode, (match (lo.map ρ) with | some v => Instr.sliceBound v h.toNat c | none => pure 0 : Sem Nat).run P w = .ok l.toNat w := by
    intro c
    rcases boundA_spec hρ hl with ⟨rfl, rfl⟩ | ⟨k, y, rfl, _, hy⟩
    · simp
    · simp only [Option.map_some, hy]
      exact run_sliceBound k l h.toNat c (by omega) (by omega)
  have b1 := run_sliceBound (P := P) (w := w) k' h cap .slice3Acap (by omega) (by omega)
  have b2 := run_sliceBound (P := P) (w := w) k h h.toNat .slice3B (by omega) (by omega)
  unfold Instr.sliceBounds
  simp only [Sem.run_bind, Result.andThen_ok, if_true, b1, b2, Option.isSome_some]
  cases hy : lo.map ρ with
  | none => have := hb2 .slice3C; rw [hy] at this; simp only [] at this ⊢; rw [Sem.run_bind, this]; rfl
  | some v => have := hb2 .slice3C; rw [hy] at this; simp only [] at this ⊢; rw [Sem.run_bind, this]; rfl

/-- .. and with a third index of its own. -/
theorem run_sliceBoundsM {P : Program} {γ : Gh} {w : World} {ρA : Operand → AVal} {ρ : Operand → Value} (hρ : ∀ x, Rep γ w true (ρA x) (ρ x)) (len cap : Nat) {lo : Option Operand} {l h m : Int} {k k' : IntKind}
    (hl : boundA 0 (lo.map ρA) = some l) (h1 : 0 ≤ l) (h2 : l ≤ h) (h3 : h ≤ m) (h4 : m ≤ cap) :
    (Instr.sliceBounds true len cap (lo.map ρ) (some (.int k h)) (some (.int k' m))).run P w = .ok (l.toNat, h.toNat, m.toNat) w := by
  have hb2 : ∀ c : BoundsCode, (match (lo.map ρ) with | some v => Instr.sliceBound v h.toNat c | none => pure 0 : Sem Nat).run P w = .ok l.toNat w := by
    intro c
    rcases boundA_spec hρ hl with ⟨rfl, rfl⟩ | ⟨k, y, rfl, _, hy⟩
    · simp
    · simp only [Option.map_some, hy]
      exact run_sliceBound k l h.toNat c (by omega) (by omega)
  have b1 := run_sliceBound (P := P) (w := w) k' m cap .slice3Acap (by omega) (by omega)
  have b2 := run_sliceBound (P := P) (w := w) k h m.toNat .slice3B (by omega) (by omega)
  unfold Instr.sliceBounds
  simp only [Sem.run_bind, Result.andThen_ok, if_true, b1, b2, Option.isSome_some]
  cases hy : lo.map ρ with
  | none => have := hb2 .slice3C; rw [hy] at this; simp only [] at this ⊢; rw [Sem.run_bind, this]; rfl
  | some v => have := hb2 .slice3C; rw [hy] at this; simp only [] at this ⊢; rw [Sem.run_bind, this]; rfl

theorem Rep.int_inv {γ : Gh} {w : World} {l : Bool} {k : IntKind} {n : Int} {v : Value} (h : Rep γ w l (.int k n) v) : v = .int k n := by cases h; rfl

theorem flat_drop_take {s : Nat} {es : List AVal} (hs : ∀ e ∈ es, e.cells.length = s) (l n : Nat) : flat ((es.drop l).take n) = ((flat es).drop (l * s)).take (n * s) := by
  have hlen : ∀ (es : List AVal), (∀ e ∈ es, e.cells.length = s) → (flat es).length = es.length * s := by
    intro es
    induction es with
    | nil => intro _; simp [flat]
    | cons x es ih =>
      intro h
      have := ih (fun e he => h e (by simp [he]))
      simp only [flat, List.flatMap_cons, List.length_append, List.length_cons] at this ⊢
      rw [this, h x (by simp), Nat.succ_mul, Nat.add_comm]
  have hd : ∀ (l : Nat) (es : List AVal), (∀ e ∈ es, e.cells.length = s) → flat (es.drop l) = (flat es).drop (l * s) := by
    intro l
    induction l with
    | zero => intro es _; simp
    | succ l ih =>
      intro es h
      cases es with
      | nil => simp [flat]
      | cons x es =>
        have := ih es (fun e he => h e (by simp [he]))
        simp only [List.drop_succ_cons, this, flat, List.flatMap_cons]
        rw [Nat.succ_mul, Nat.add_comm, ← List.drop_drop, ← h x (by simp), List.drop_left' rfl, h x (by simp)]
        exact this
  have htk : ∀ (n : Nat) (es : List AVal), (∀ e ∈ es, e.cells.length = s) → flat (es.take n) = (flat es).take (n * s) := by
    intro n
    induction n with
    | zero => intro es _; simp [flat]
    | succ n ih =>
      intro es h
      cases es with
      | nil => simp [flat]
      | cons x es =>
        have := ih es (fun e he => h e (by simp [he]))
        simp only [List.take_succ_cons, flat, List.flatMap_cons] at this ⊢
        rw [this, Nat.succ_mul, Nat.add_comm, ← h x (by simp), List.take_length_add_append]
  rw [htk n _ (fun e he => hs e (List.mem_of_mem_drop he)), hd l es hs]

theorem List.length_sub {α : Type} {l : List α} {a b : Nat} (h1 : a ≤ b) (h2 : b ≤ l.length) : ((l.drop a).take (b - a)).length = b - a := by
  simp; omega

theorem sliceA_sound {P : Program} {γ : Gh} {w : World} {ρA : Operand → AVal} {ρ : Operand → Value} (hρ : ∀ x, Rep γ w true (ρA x) (ρ x)) {T : TypeId} {x : Operand} {lo hi mx : Option Operand} {p : Bool} {r : AVal}
    (h : sliceA P T (ρA x) (lo.map ρA) (hi.map ρA) (mx.map ρA) = some (p, r)) (hp : p) : Yields P γ w (Instr.sliceAt T (ρ x) (lo.map ρ) (hi.map ρ) (mx.map ρ)) r := by
  have hx := hρ x
  unfold sliceA at h
  split at h
  · rename_i s hs
    rw [hs] at hx
    generalize hy : ρ x = y at hx ⊢
    cases hx
    split at h
    · rename_i ht
      have ht := isStr_spec ht
      split at h
      · rename_i l hh hm h1 h2
        have hm' : mx = none := by cases mx <;> simp at hm ⊢
        subst hm'
        simp only [Option.some.injEq, Prod.mk.injEq] at h
        obtain ⟨rfl, rfl⟩ := h
        first | replace hp := of_decide_eq_true hp | skip
        have hsz : (ByteArray.mk s.toArray).size = s.length := by simp [ByteArray.size]
        have hb := run_sliceBounds (P := P) (w := w) hρ false s.length s.length (Nat.le_refl _) h1 h2 hp.1 hp.2.1 (by omega)
        refine ⟨.string ⟨((s.drop l.toNat).take (hh.toNat - l.toNat)).toArray⟩, ?_, .str _ _⟩
        have he : (ByteArray.mk s.toArray).extract l.toNat hh.toNat = ⟨((s.drop l.toNat).take (hh.toNat - l.toNat)).toArray⟩ := by
          apply ByteArray.ext
          simp [ByteArray.data_extract, List.extract_toArray, List.extract_eq_take_drop]
        simp [Instr.sliceAt, Instr.slice, run_underlying ht, hsz, hb, he]
      · cases h
    · cases h
  · rename_i es s tag hs
    rw [hs] at hx
    generalize hy : ρ x = y at hx ⊢
    split at h
    · rename_i e n bs zs he
      obtain ⟨inf, z, g1, g2, g3, _⟩ := tElem_spec he
      split at h
      · rename_i hn
        split at h
        · rename_i hm
          have hm' : mx = none := by cases mx <;> simp at hm ⊢
          subst hm'
          split at h
          · rename_i l hh h1 h2
            simp only [Option.some.injEq, Prod.mk.injEq] at h
            obtain ⟨rfl, rfl⟩ := h
            first | replace hp := of_decide_eq_true hp | skip
            obtain ⟨q1, q2, q3⟩ := hp
            cases hx with
            | @sliceRow _ _ _ _ b off cap vs hr hse hc h1' hnc hmx ht =>
              have hb := run_sliceBounds (P := P) (w := w) hρ true es.length cap hnc h1 h2 q1 q2 (by omega)
              have hns : n = s := by
                rcases hn with hn | hn
                · exact hn
                · cases tag <;> simp [Tag.isNil] at hn
                  exact ht.elim
              subst hns
              have hl : ((es.drop l.toNat).take (hh.toNat - l.toNat)).length = hh.toNat - l.toNat := List.length_sub (by omega) (by omega)
              have hrun : (Instr.sliceAt T (.slice (some ⟨b, off, none⟩) es.length cap) (lo.map ρ) (hi.map ρ) ((none : Option Operand).map ρ)).run P w =
                  .ok (.slice (if cap = l.toNat then some ⟨b, off, none⟩ else some ⟨b, off + l.toNat * n, none⟩) (hh.toNat - l.toNat) (cap - l.toNat)) w := by
                simp [Instr.sliceAt, Instr.slice, run_underlying g1, hb, sizeOf, typeInfo, g2, g3]
                split <;> simp [addr_add]
              refine ⟨_, hrun, ?_⟩
              have hr2 : RepL γ w false (flat ((es.drop l.toNat).take (hh.toNat - l.toNat))) ((vs.drop (l.toNat * n)).take ((hh.toNat - l.toNat) * n)) := by
                rw [flat_drop_take hse]
                exact (hr.drop _).take _
              have hse2 : ∀ e ∈ (es.drop l.toNat).take (hh.toNat - l.toNat), e.cells.length = n := fun e he => hse e (List.mem_of_mem_drop (List.mem_of_mem_take he))
              have hv2 : ∀ v ∈ (vs.drop (l.toNat * n)).take ((hh.toNat - l.toNat) * n), v.oneCell' = true := fun v hv => h1' v (List.mem_of_mem_drop (List.mem_of_mem_take hv))
              by_cases hcap : cap = l.toNat
              · rw [if_pos hcap]
                have hz : hh.toNat - l.toNat = 0 := by omega
                have hempty : (es.drop l.toNat).take (hh.toNat - l.toNat) = [] := by rw [hz]; rfl
                rw [hempty, hz, hcap, Nat.sub_self]
                have : Rep γ w true (.slice [] n (sliceTag (lo.map ρA) (hi.map ρA) tag)) (.slice (some ⟨b, off, none⟩) ([] : List AVal).length 0) := by
                  refine .sliceRow (vs := []) (.nil _) (fun e he => by cases he) (fun j v hj => by simp at hj) (fun v hv => by cases hv) (Nat.le_refl _) (Nat.zero_le _) ?_
                  cases tag with
                  | nil => exact ht.elim
                  | ro => trivial
                  | full => cases hi <;> simp [sliceTag, AL.tagRow]
                  | own q =>
                    cases hlo : lo with
                    | some _ => simp [sliceTag, AL.tagRow]
                    | none =>
                      cases hhi : hi with
                      | some _ => simp [sliceTag, AL.tagRow]
                      | none =>
                        subst hlo; subst hhi
                        simp [boundA] at h1 h2
                        subst h1; subst h2
                        simp at hcap hz
                        simp only [sliceTag, Option.map_none, List.length_nil]
                        rw [hz] at ht
                        simpa [hcap] using ht
                exact this
              · rw [if_neg hcap]
                have hgoal := Rep.sliceRow (γ := γ) (w := w) (l := true) (tag := sliceTag (lo.map ρA) (hi.map ρA) tag) (off := off + l.toNat * n) (b := b) (cap := cap - l.toNat) hr2 hse2 ((hc.drop _).take _) hv2 (by omega) (by omega) (by
                  rw [hl]
                  cases tag with
                  | nil => exact ht.elim
                  | ro => trivial
                  | full =>
                    cases hi with
                    | none => simp [boundA] at h2; simp [AL.tagRow] at ht; simp [sliceTag, AL.tagRow]; omega
                    | some _ => simp [sliceTag, AL.tagRow]
                  | own q =>
                    cases hlo : lo with
                    | some _ => simp [sliceTag, AL.tagRow]
                    | none =>
                      cases hhi : hi with
                      | some _ => simp [sliceTag, AL.tagRow]
                      | none =>
                        subst hlo; subst hhi
                        simp [boundA] at h1 h2
                        subst h1; subst h2
                        simp only [sliceTag, Option.map_none]
                        simpa using ht)
                rw [hl] at hgoal
                exact hgoal
            | @sliceNil _ _ _ oo ht ho =>
              have hb := run_sliceBounds (P := P) (w := w) hρ true 0 0 (Nat.le_refl _) h1 h2 q1 q2 q3
              simp only [List.length_nil] at q3
              have e1 : l = 0 := by omega
              have e2 : hh = 0 := by omega
              subst e1; subst e2
              refine ⟨.slice oo 0 0, ?_, ?_⟩
              · simp at hb
                cases oo <;> simp [Instr.sliceAt, Instr.slice, run_underlying g1, hb, sizeOf, typeInfo, g2, g3]
              · simp only [List.drop_nil, List.take_nil]
                refine .sliceNil ?_ ?_
                · cases tag with
                  | own q => cases lo <;> cases hi <;> first | exact ht | trivial
                  | full => cases hi <;> trivial
                  | _ => trivial
                · refine ho.imp_right fun h => ?_
                  cases tag with
                  | own q => cases lo <;> cases hi <;> rfl
                  | full => cases hi <;> rfl
                  | nil => cases h
                  | ro => rfl
          · cases h
        · rename_i m hm
          split at h
          · rename_i l k hh k' m' h1 h2
            cases hi with
            | none => cases h2
            | some hiO =>
            cases mx with
            | none => cases hm
            | some mxO =>
            simp only [Option.map_some, Option.some.injEq] at h2 hm
            simp only [Option.some.injEq, Prod.mk.injEq] at h
            obtain ⟨rfl, rfl⟩ := h
            first | replace hp := of_decide_eq_true hp | skip
            obtain ⟨q1, q2, q3, rfl⟩ := hp
            have vh := hρ hiO
            rw [h2] at vh
            have vh := vh.int_inv
            have vm := hρ mxO
            rw [hm] at vm
            have vm := vm.int_inv
            simp only [Option.map_some, vh, vm]
            cases hx with
            | @sliceRow _ _ _ _ b off cap vs hr hse hc h1' hnc hmx ht =>
              have hb := run_sliceBounds3 (P := P) (w := w) (k := k) (k' := k') hρ es.length cap hnc h1 q1 q2 q3
              have hns : n = s := by
                rcases hn with hn | hn
                · exact hn
                · cases tag <;> simp [Tag.isNil] at hn
                  exact ht.elim
              subst hns
              have hl : ((es.drop l.toNat).take (m'.toNat - l.toNat)).length = m'.toNat - l.toNat := List.length_sub (by omega) (by omega)
              have hrun : (Instr.sliceAt T (.slice (some ⟨b, off, none⟩) es.length cap) (lo.map ρ) (some (.int k m')) (some (.int k' m'))).run P w =
                  .ok (.slice (if m'.toNat = l.toNat then some ⟨b, off, none⟩ else some ⟨b, off + l.toNat * n, none⟩) (m'.toNat - l.toNat) (m'.toNat - l.toNat)) w := by
                simp [Instr.sliceAt, Instr.slice, run_underlying g1, hb, sizeOf, typeInfo, g2, g3]
                split <;> simp [addr_add]
              refine ⟨_, hrun, ?_⟩
              have hr2 : RepL γ w false (flat ((es.drop l.toNat).take (m'.toNat - l.toNat))) ((vs.drop (l.toNat * n)).take ((m'.toNat - l.toNat) * n)) := by
                rw [flat_drop_take hse]
                exact (hr.drop _).take _
              have hse2 : ∀ e ∈ (es.drop l.toNat).take (m'.toNat - l.toNat), e.cells.length = n := fun e he => hse e (List.mem_of_mem_drop (List.mem_of_mem_take he))
              have hv2 : ∀ v ∈ (vs.drop (l.toNat * n)).take ((m'.toNat - l.toNat) * n), v.oneCell' = true := fun v hv => h1' v (List.mem_of_mem_drop (List.mem_of_mem_take hv))
              by_cases hcap : m'.toNat = l.toNat
              · rw [if_pos hcap]
                have hz : m'.toNat - l.toNat = 0 := by omega
                have hempty : (es.drop l.toNat).take (m'.toNat - l.toNat) = [] := by rw [hz]; rfl
                rw [hempty, hz]
                have : Rep γ w true (.slice [] n .full) (.slice (some ⟨b, off, none⟩) ([] : List AVal).length 0) :=
                  .sliceRow (vs := []) (.nil _) (fun e he => by cases he) (fun j v hj => by simp at hj) (fun v hv => by cases hv) (Nat.le_refl _) (Nat.zero_le _) rfl
                exact this
              · rw [if_neg hcap]
                have hgoal := Rep.sliceRow (γ := γ) (w := w) (l := true) (tag := .full) (off := off + l.toNat * n) (b := b) (cap := m'.toNat - l.toNat) hr2 hse2 ((hc.drop _).take _) hv2 (by omega) (by omega) (by
                  rw [hl]; rfl)
                rw [hl] at hgoal
                exact hgoal
            | @sliceNil _ _ _ oo ht ho =>
              have hb := run_sliceBounds3 (P := P) (w := w) (k := k) (k' := k') hρ 0 0 (Nat.le_refl _) h1 q1 q2 q3
              simp only [List.length_nil] at q3
              have e1 : l = 0 := by omega
              have e2 : m' = 0 := by omega
              subst e1; subst e2
              refine ⟨.slice oo 0 0, ?_, ?_⟩
              · simp at hb
                cases oo <;> simp [Instr.sliceAt, Instr.slice, run_underlying g1, hb, sizeOf, typeInfo, g2, g3]
              · simp only [List.drop_nil, List.take_nil]
                exact .sliceNil trivial (.inr rfl)
          · cases h
      · cases h
    · cases h
  · rename_i o off len cap hs
    rw [hs] at hx
    generalize hy : ρ x = y at hx ⊢
    split at h
    · rename_i e n bs zs l hh he h1 h2
      obtain ⟨inf, z, g1, g2, g3, _⟩ := tElem_spec he
      cases hx with
      | @arr _ _ _ off' _ _ b hb ho hnc h0 =>
        split at h
        · rename_i hm
          have hm' : mx = none := by cases mx <;> simp at hm ⊢
          subst hm'
          simp only [Option.some.injEq, Prod.mk.injEq] at h
          obtain ⟨rfl, rfl⟩ := h
          first | replace hp := of_decide_eq_true hp | skip
          obtain ⟨q1, q2, q3⟩ := hp
          have hb' := run_sliceBounds (P := P) (w := w) hρ true len cap hnc h1 h2 q1 q2 q3
          refine ⟨.slice (some ⟨b, if cap = l.toNat then off' else off' + l.toNat * n, none⟩) (hh.toNat - l.toNat) (cap - l.toNat), ?_, .arr hb ho (by omega) (fun h3 => ?_)⟩
          · simp [Instr.sliceAt, Instr.slice, run_underlying g1, hb', sizeOf, typeInfo, g2, g3]
            split <;> simp [addr_add]
          · rw [if_neg (by omega), h0 (by omega)]
        · rename_i m hm
          split at h
          · rename_i k hh' k' m' h3
            cases hi with
            | none => cases h3
            | some hiO =>
            cases mx with
            | none => cases hm
            | some mxO =>
            simp only [Option.map_some, Option.some.injEq] at h3 hm
            simp only [Option.some.injEq, Prod.mk.injEq] at h
            obtain ⟨rfl, rfl⟩ := h
            first | replace hp := of_decide_eq_true hp | skip
            obtain ⟨q1, q2, q3, q4⟩ := hp
            have vh := hρ hiO
            rw [h3] at vh
            have vh := vh.int_inv
            have vm := hρ mxO
            rw [hm] at vm
            have vm := vm.int_inv
            have e2 : hh' = hh := by simp [boundA, h3] at h2; exact h2
            subst e2
            simp only [Option.map_some, vh, vm]
            have hb' := run_sliceBoundsM (P := P) (w := w) (k := k) (k' := k') hρ len cap h1 q1 q2 q3 q4
            refine ⟨.slice (some ⟨b, if m'.toNat = l.toNat then off' else off' + l.toNat * n, none⟩) (hh'.toNat - l.toNat) (m'.toNat - l.toNat), ?_, .arr hb ho (by omega) (fun h5 => ?_)⟩
            · simp [Instr.sliceAt, Instr.slice, run_underlying g1, hb', sizeOf, typeInfo, g2, g3]
              split <;> simp [addr_add]
            · rw [if_neg (by omega), h0 (by omega)]
          · cases h
    · cases h
  · cases h

/-! ### The rest -/

theorem lenA_sound {P : Program} {γ : Gh} {w : World} {lk : Oid → Option AObj} (hk : Ok γ w lk) {T : TypeId} {a : AVal} {u : Value} (hu : Rep γ w true a u) {p : Bool} {r : AVal} (h : lenA P lk T a = some (p, r)) (_hp : p)
    (ty : TypeId) : Yields P γ w (Builtin.len_ #[T] ty #[u]) r := by
  unfold lenA at h
  split at h
  · rename_i s ht
    simp only [Option.some.injEq, Prod.mk.injEq] at h
    obtain ⟨rfl, rfl⟩ := h
    first | replace hp := of_decide_eq_true hp | skip
    cases hu
    have hsz : (ByteArray.mk s.toArray).size = s.length := by simp [ByteArray.size]
    exact ⟨_, by simp [Builtin.len_, run_underlying ht, goInt, hsz], .int _ _ _⟩
  · rename_i e es s tag ht
    simp only [Option.some.injEq, Prod.mk.injEq] at h
    obtain ⟨rfl, rfl⟩ := h
    first | replace hp := of_decide_eq_true hp | skip
    cases hu with
    | sliceRow => exact ⟨_, by simp [Builtin.len_, run_underlying ht, goInt], .int _ _ _⟩
    | sliceNil => exact ⟨_, by simp [Builtin.len_, run_underlying ht, goInt], .int _ _ _⟩
  · rename_i e o off len cap ht
    simp only [Option.some.injEq, Prod.mk.injEq] at h
    obtain ⟨rfl, rfl⟩ := h
    first | replace hp := of_decide_eq_true hp | skip
    cases hu
    exact ⟨_, by simp [Builtin.len_, run_underlying ht, goInt], .int _ _ _⟩
  · rename_i e k len ht
    simp only [Option.some.injEq, Prod.mk.injEq] at h
    obtain ⟨rfl, rfl⟩ := h
    first | replace hp := of_decide_eq_true hp | skip
    cases hu
    exact ⟨_, by simp [Builtin.len_, run_underlying ht, goInt], .int _ _ _⟩
  · rename_i n e ht
    simp only [Option.some.injEq, Prod.mk.injEq] at h
    obtain ⟨rfl, rfl⟩ := h
    first | replace hp := of_decide_eq_true hp | skip
    exact ⟨_, by simp [Builtin.len_, run_underlying ht, goInt], .int _ _ _⟩
  · rename_i k e ht
    simp only [Option.some.injEq, Prod.mk.injEq] at h
    obtain ⟨rfl, rfl⟩ := h
    first | replace hp := of_decide_eq_true hp | skip
    cases hu
    exact ⟨_, by simp [Builtin.len_, run_underlying ht, goInt], .int _ _ _⟩
  · rename_i k e o ht
    split at h
    · rename_i es ho
      simp only [Option.some.injEq, Prod.mk.injEq] at h
      obtain ⟨rfl, rfl⟩ := h
      first | replace hp := of_decide_eq_true hp | skip
      cases hu with
      | map hb hl =>
        obtain ⟨b', hb2, ents, clock, hh, hr, _⟩ := hk.obj _ _ ho (by simp)
        rw [hb] at hb2
        cases hb2
        have := hr.1
        refine ⟨_, ?_, .int _ _ _⟩
        simp [Builtin.len_, run_underlying ht, goInt, getObj, Sem.run, hh, this]
    · cases h
  · cases h

theorem capA_sound {P : Program} {γ : Gh} {w : World} {T : TypeId} {a : AVal} {u : Value} (hu : Rep γ w true a u) {p : Bool} {r : AVal} (h : capA P T a = some (p, r))
    (ty : TypeId) : Yields P γ w (Builtin.cap_ #[T] ty #[u]) r := by
  unfold capA at h
  split at h
  · rename_i e o off len cap ht
    simp only [Option.some.injEq, Prod.mk.injEq] at h
    obtain ⟨rfl, rfl⟩ := h
    cases hu
    exact ⟨_, by simp [Builtin.cap_, run_underlying ht, goInt], .int _ _ _⟩
  · cases h

theorem maxA_sound {P : Program} {γ : Gh} {w : World} : ∀ {as : List AVal} {a : AVal} {u : Value} {us : List Value} {r : AVal}, maxA a as = some r → Rep γ w true a u → RepL γ w true as us →
    ∃ v, (us.foldlM Builtin.max2 u).run P w = .ok v w ∧ Rep γ w true r v
  | [], a, u, _, r, h, hu, .nil _ => by simp [maxA] at h; subst h; exact ⟨u, rfl, hu⟩
  | b :: as, a, u, _, r, h, hu, .cons hb t => by
    unfold maxA at h
    split at h
    · rename_i e; simp at e
    · rename_i k x k' y as' e
      cases e
      cases hu; cases hb
      obtain ⟨v, h1, h2⟩ := maxA_sound (P := P) h (.int true k _) t
      refine ⟨v, ?_, h2⟩
      simp only [List.foldlM_cons, Builtin.max2, Sem.run_bind, Sem.run_pure, Result.andThen_ok]
      exact h1
    · cases h

theorem minA_sound {P : Program} {γ : Gh} {w : World} : ∀ {as : List AVal} {a : AVal} {u : Value} {us : List Value} {r : AVal}, minA a as = some r → Rep γ w true a u → RepL γ w true as us →
    ∃ v, (us.foldlM Builtin.min2 u).run P w = .ok v w ∧ Rep γ w true r v
  | [], a, u, _, r, h, hu, .nil _ => by simp [minA] at h; subst h; exact ⟨u, rfl, hu⟩
  | b :: as, a, u, _, r, h, hu, .cons hb t => by
    unfold minA at h
    split at h
    · rename_i e; simp at e
    · rename_i k x k' y as' e
      cases e
      cases hu; cases hb
      obtain ⟨v, h1, h2⟩ := minA_sound (P := P) h (.int true k _) t
      refine ⟨v, ?_, h2⟩
      simp only [List.foldlM_cons, Builtin.min2, Sem.run_bind, Sem.run_pure, Result.andThen_ok]
      exact h1
    · cases h

/-- Cells laid over others, as the model does it. -/
theorem fill_range (off : Nat) : ∀ (xs : List Value) (k : Nat) (cs : Array Value), off + k + xs.length ≤ cs.size →
    ((xs.zipIdx k).foldl (fun cs (x : Value × Nat) => cs.setIfInBounds (off + x.2) x.1) cs).toList = cs.toList.take (off + k) ++ xs ++ cs.toList.drop (off + k + xs.length)
  | [], k, cs, _ => by simp
  | x :: xs, k, cs, h => by
    simp only [List.length_cons] at h
    rw [List.zipIdx_cons, List.foldl_cons, fill_range off xs (k + 1) _ (by simp; omega)]
    simp only [Array.toList_setIfInBounds, List.length_cons]
    have e1 : off + (k + 1) = off + k + 1 := by omega
    have e2 : off + k + 1 + xs.length = off + k + (xs.length + 1) := by omega
    rw [e1, e2]
    have h3 : (cs.toList.set (off + k) x).take (off + k + 1) = cs.toList.take (off + k) ++ [x] := by
      rw [List.take_succ_eq_append_getElem (by simp; omega), List.take_set_of_le (Nat.le_refl _)]
      simp
    have h4 : (cs.toList.set (off + k) x).drop (off + k + (xs.length + 1)) = cs.toList.drop (off + k + (xs.length + 1)) := by
      rw [List.drop_set_of_lt (by omega)]
    rw [h3, h4]
    simp

theorem sized_cells {γ : Gh} {w : World} {l : Bool} {a : AVal} {v : Value} (h : Rep γ w l a v) (hz : a.sized = true) : RepL γ w l a.cells v.cells.toList ∧ (∀ x ∈ v.cells.toList, x.oneCell' = true) := by
  cases h with
  | agg h h1 => exact ⟨by simpa [AVal.cells, Value.cells] using h, by simpa [Value.cells] using h1⟩
  | undef => cases hz
  | tuple => cases hz
  | bool => exact ⟨.cons (.bool _ _) (.nil _), by simp [Value.cells, Value.oneCell']⟩
  | int => exact ⟨.cons (.int _ _ _) (.nil _), by simp [Value.cells, Value.oneCell']⟩
  | str => exact ⟨.cons (.str _ _) (.nil _), by simp [Value.cells, Value.oneCell']⟩
  | sliceRow h hs hc h1 hn hm ht => exact ⟨.cons (.sliceRow h hs hc h1 hn hm ht) (.nil _), by simp [Value.cells, Value.oneCell']⟩
  | sliceNil ht ho => exact ⟨.cons (.sliceNil ht ho) (.nil _), by simp [Value.cells, Value.oneCell']⟩
  | arr hb ho hn h0 => exact ⟨.cons (.arr hb ho hn h0) (.nil _), by simp [Value.cells, Value.oneCell']⟩
  | mrow hc hn hb => exact ⟨.cons (.mrow hc hn hb) (.nil _), by simp [Value.cells, Value.oneCell']⟩
  | iptr h h1 hc => exact ⟨.cons (.iptr h h1 hc) (.nil _), by simp [Value.cells, Value.oneCell']⟩
  | ptr hb ho => exact ⟨.cons (.ptr hb ho) (.nil _), by simp [Value.cells, Value.oneCell']⟩
  | nilptr => exact ⟨.cons (.nilptr _) (.nil _), by simp [Value.cells, Value.oneCell']⟩
  | map hb ho => exact ⟨.cons (.map hb ho) (.nil _), by simp [Value.cells, Value.oneCell']⟩
  | nilmap => exact ⟨.cons (.nilmap _) (.nil _), by simp [Value.cells, Value.oneCell']⟩
  | func hf hc => exact ⟨.cons (.func hf hc) (.nil _), by simp [Value.cells, Value.oneCell']⟩
  | nilfunc => exact ⟨.cons (.nilfunc _) (.nil _), by simp [Value.cells, Value.oneCell']⟩
  | iface h => exact ⟨.cons (.iface h) (.nil _), by simp [Value.cells, Value.oneCell']⟩
  | nilIface => exact ⟨.cons (.nilIface _) (.nil _), by simp [Value.cells, Value.oneCell']⟩

theorem RepL.setRange {γ : Gh} {w : World} {l : Bool} {cs xs : List AVal} {vs us : List Value} (h : RepL γ w l cs vs) (hx : RepL γ w l xs us) (off : Nat) : RepL γ w l (AL.setRange cs off xs) (vs.take off ++ us ++ vs.drop (off + us.length)) := by
  unfold AL.setRange
  rw [hx.length]
  exact RepL.append (h.drop _) (RepL.append hx (h.take _))

theorem fillA_sound {γ : Gh} {w : World} {ρA : Operand → AVal} {ρ : Operand → Value} (hρ : ∀ x, Rep γ w true (ρA x) (ρ x)) {place : Nat → Option (Nat × Nat)} :
    ∀ {ps : List (Nat × Operand)} {cs : List AVal} {vs : Array Value} {r : List AVal}, fillA place cs (ps.map fun x => (x.1, ρA x.2)) = some r → RepL γ w true cs vs.toList → (∀ v ∈ vs.toList, v.oneCell' = true) →
    ∃ us : Array Value, Instr.fill place vs (ps.map fun x => (x.1, ρ x.2)) = some us ∧ RepL γ w true r us.toList ∧ (∀ v ∈ us.toList, v.oneCell' = true)
  | [], cs, vs, r, h, hr, h1 => by
    simp only [List.map_nil, fillA, Option.some.injEq] at h
    subst h
    exact ⟨vs, rfl, hr, h1⟩
  | x :: ps, cs, vs, r, h, hr, h1 => by
    simp only [List.map_cons, fillA] at h
    split at h
    · rename_i off n hpl
      split at h
      · rename_i hc
        simp only [Bool.and_eq_true, beq_iff_eq, decide_eq_true_eq] at hc
        obtain ⟨hx, hx1⟩ := sized_cells (hρ x.2) hc.1.1
        have hl := hr.length
        have hlx := hx.length
        simp only [Array.length_toList] at hl hlx
        have hrange := fill_range off (ρ x.2).cells.toList 0 vs (by simp only [Array.length_toList]; omega)
        simp only [Nat.add_zero] at hrange
        have hr2 := hr.setRange hx off
        have hfold : (ρ x.2).cells.zipIdx.foldl (fun cs (c, j) => cs.setIfInBounds (off + j) c) vs = (((ρ x.2).cells.toList.zipIdx 0).foldl (fun cs (x : Value × Nat) => cs.setIfInBounds (off + x.2) x.1) vs) := by
          rw [← Array.foldl_toList, Array.toList_zipIdx]
        obtain ⟨us, g1, g2, g3⟩ := fillA_sound hρ (ps := ps) (vs := (ρ x.2).cells.zipIdx.foldl (fun cs (c, j) => cs.setIfInBounds (off + j) c) vs) h (by rw [hfold, hrange]; exact hr2) (by
          rw [hfold, hrange]
          intro v hv
          rcases List.mem_append.1 hv with hv | hv
          · rcases List.mem_append.1 hv with hv | hv
            · exact h1 v (List.mem_of_mem_take hv)
            · exact hx1 v hv
          · exact h1 v (List.mem_of_mem_drop hv))
        refine ⟨us, ?_, g2, g3⟩
        simp only [List.map_cons, Instr.fill, hpl]
        rw [if_neg]
        · exact g1
        · simp only [Bool.or_eq_true, decide_eq_true_eq, ne_eq]
          omega
      · cases h
    · cases h

theorem RepL.absV (γ : Gh) (w : World) (l : Bool) : ∀ vs : List Value, RepL γ w l (vs.map AL.absV) vs
  | [] => .nil _
  | v :: vs => .cons (Rep.absV l v) (RepL.absV γ w l vs)

theorem absZ_spec {z : Value} {v : AVal} (h : absZ z = some v) (γ : Gh) (w : World) (l : Bool) : Rep γ w l v z ∧ RepL γ w l v.cells z.cells.toList ∧ ∀ x ∈ z.cells.toList, x.oneCell' = true := by
  unfold absZ at h
  split at h
  · rename_i cs
    split at h
    · rename_i hc
      cases h
      have h1 : ∀ x ∈ cs.toList, x.oneCell' = true := List.all_eq_true.1 hc
      have := RepL.absV γ w l cs.toList
      exact ⟨.agg this h1, this, h1⟩
    · cases h
  · cases h
  · rename_i h1 h2
    cases h
    have hone : z.oneCell' = true := by cases z <;> first | rfl | exact absurd rfl (h1 _) | exact absurd rfl (h2 _)
    have hc : z.cells.toList = [z] := by cases z <;> first | rfl | exact absurd rfl (h1 _)
    have hv : (absV z).cells = [absV z] := by
      unfold absV
      split <;> rfl
    rw [hc, hv]
    exact ⟨Rep.absV l z, .cons (Rep.absV l z) (.nil _), by simpa using hone⟩

theorem zeroV_spec {P : Program} {T : TypeId} {v : AVal} (h : zeroV P T = some v) : ∃ inf z, P.info? T = some inf ∧ inf.zero = some z ∧ absZ z = some v := by
  unfold zeroV at h
  split at h
  · rename_i inf hi
    split at h
    · rename_i z hz
      exact ⟨inf, z, hi, hz, h⟩
    · cases h
  · cases h

theorem run_zeroValue {P : Program} {T : TypeId} {inf : TypeInfo} {z : Value} (hi : P.info? T = some inf) (hz : inf.zero = some z) (w : World) : (zeroValue T).run P w = .ok z w := by
  simp [zeroValue, typeInfo, hi, hz]

theorem run_sizeOf' {P : Program} {t : TypeId} {i : TypeInfo} (h : P.info? t = some i) (w : World) : (sizeOf t).run P w = .ok (P.cellsOf t) w := by
  simp [sizeOf, typeInfo, h, Program.cellsOf]

theorem mapM_places {P : Program} {w : World} (fs : List Field) (hf : ∀ f ∈ fs, (P.info? f.type).isSome = true) :
    ∃ ps : List (Nat × Nat), (fs.mapM (m := Sem) fun f => do pure (f.offset, ← sizeOf f.type)).run P w = .ok ps w ∧ ps = fs.map fun f => (f.offset, P.cellsOf f.type) := by
  induction fs with
  | nil => exact ⟨[], rfl, rfl⟩
  | cons f fs ih =>
    obtain ⟨ps, h1, h2⟩ := ih (fun f hf' => hf f (by simp [hf']))
    obtain ⟨inf, hi⟩ := Option.isSome_iff_exists.1 (hf f (by simp))
    refine ⟨(f.offset, P.cellsOf f.type) :: ps, ?_, by simp [h2]⟩
    simp only [List.mapM_cons, Sem.run_bind, run_sizeOf' hi, Result.andThen_ok, Sem.run_pure, h1]

theorem buildA_sound {P : Program} {γ : Gh} {w : World} {ρA : Operand → AVal} {ρ : Operand → Value} (hρ : ∀ x, Rep γ w true (ρA x) (ρ x)) {T : TypeId} {ps : Array (Nat × Operand)} {p : Bool} {r : AVal}
    (h : buildA P T (ps.toList.map fun x => (x.1, ρA x.2)) = some (p, r)) (_hp : p) : Yields P γ w (Instr.build T (ps.map fun (i, x) => (i, ρ x))) r := by
  have hlist : (ps.map fun (i, x) => (i, ρ x)).toList = ps.toList.map fun x => (x.1, ρ x.2) := by simp
  unfold buildA at h
  split at h
  · rename_i hst
    unfold isStruct at hst
    split at hst
    · rename_i fs hfs
      split at h
      · rename_i zs hzs
        unfold zeroA at hzs
        split at hzs
        · rename_i v hv
          cases hzs
          obtain ⟨inf, z, hi, hz, ha⟩ := zeroV_spec hv
          obtain ⟨_, g2, g3⟩ := absZ_spec ha γ w true
          split at h
          · rename_i cs hcs
            simp only [Option.some.injEq, Prod.mk.injEq] at h
            obtain ⟨rfl, rfl⟩ := h
            first | replace hp := of_decide_eq_true hp | skip
            obtain ⟨us, f1, f2, f3⟩ := fillA_sound hρ (vs := z.cells) hcs g2 g3
            obtain ⟨pls, m1, m2⟩ := mapM_places (P := P) (w := w) fs.toList (List.all_eq_true.1 hst)
            have hpl : (fun i => pls.toArray[i]?) = structPlace P T ∨ True := .inr trivial
            refine ⟨.agg us, ?_, ?_⟩
            · have hm : (fs.mapM (m := Sem) fun f => do pure (f.offset, ← sizeOf f.type)).run P w = .ok pls.toArray w := by
                rw [Array.mapM_eq_mapM_toList]
                simp only [Sem.run_map, m1, Result.andThen_ok]
              have hfill : Instr.fill (fun i => pls.toArray[i]?) z.cells (ps.map fun (i, x) => (i, ρ x)).toList = some us := by
                rw [hlist]
                refine fill_weaken ?_ _ _ f1
                intro i x hx
                unfold structPlace tField at hx
                cases hfi : fs[i]? with
                | none => simp [hfs, hfi] at hx
                | some f =>
                  cases hin : P.info? f.type with
                  | none => simp [hfs, hfi, hin] at hx
                  | some inf' =>
                    cases hg : tIsAgg P f.type with
                    | none => simp [hfs, hfi, hin, hg] at hx
                    | some g =>
                      simp [hfs, hfi, hin, hg] at hx
                      rw [m2, ← hx]
                      simp [hfi, Program.cellsOf, hin]
              simp only [Instr.build, Sem.run_bind, run_zeroValue hi hz, Result.andThen_ok, run_underlying hfs, hm, hfill, Sem.run_pure]
            · have := Rep.agg f2 f3
              simpa using this
          · cases h
        · cases hzs
      · cases h
    · cases hst
  · split at h
    · rename_i m n g zs hm hzs
      obtain ⟨e, infe, g1, g2', g3', _⟩ := tArr_spec hm
      unfold zeroA at hzs
      split at hzs
      · rename_i v hv
        cases hzs
        obtain ⟨inf, z, hi, hz, ha⟩ := zeroV_spec hv
        obtain ⟨_, g2, g3⟩ := absZ_spec ha γ w true
        split at h
        · rename_i cs hcs
          simp only [Option.some.injEq, Prod.mk.injEq] at h
          obtain ⟨rfl, rfl⟩ := h
          first | replace hp := of_decide_eq_true hp | skip
          obtain ⟨us, f1, f2, f3⟩ := fillA_sound hρ (vs := z.cells) hcs g2 g3
          refine ⟨.agg us, ?_, ?_⟩
          · rw [← hlist] at f1
            have hc : P.cellsOf e = n := by simp [Program.cellsOf, g2', g3']
            simp only [Instr.build, Sem.run_bind, run_zeroValue hi hz, Result.andThen_ok, run_underlying g1, run_sizeOf' g2', hc, f1, Sem.run_pure]
          · have := Rep.agg f2 f3
            simpa using this
        · cases h
      · cases hzs
    · cases h
where
  fill_weaken {place place' : Nat → Option (Nat × Nat)} (hp : ∀ i x, place i = some x → place' i = some x) : ∀ (ps : List (Nat × Value)) (cs : Array Value) {us : Array Value}, Instr.fill place cs ps = some us → Instr.fill place' cs ps = some us
    | [], cs, us, h => h
    | x :: ps, cs, us, h => by
      simp only [Instr.fill] at h ⊢
      cases hx : place x.1 with
      | none => rw [hx] at h; cases h
      | some y =>
        rw [hx] at h
        rw [hp _ _ hx]
        simp only [] at h ⊢
        split at h
        · cases h
        · rename_i hc
          rw [if_neg hc]
          exact fill_weaken hp ps _ h

theorem isIface_false {P : Program} {T : TypeId} (h : isIface P T = some false) : ∃ d, P.underlying T = some d ∧ ∀ ms, d ≠ .interface ms := by
  unfold isIface at h
  split at h
  · cases h
  · rename_i d hn hd
    exact ⟨d, hd, fun ms e => hn ms (e ▸ rfl)⟩
  · cases h

theorem assertA_sound {P : Program} {γ : Gh} {w : World} {T xT : TypeId} {ok : Bool} {a : AVal} {u : Value} (hu : Rep γ w true a u) {p : Bool} {r : AVal} (h : assertA P a T ok = some (p, r)) (hp : p) :
    Yields P γ w (Instr.typeAssert u xT T ok) r := by
  unfold assertA at h
  split at h
  · rename_i t v hT
    obtain ⟨d, hd, hni⟩ := isIface_false hT
    cases hu with
    | iface hv =>
      rename_i v'
      have hrun : (Instr.typeAssert (.iface t v') xT T ok).run P w = (if t = T then (pure (if ok then .tuple #[v', .bool true] else v') : Sem Value) else
          (if ok then do pure (.tuple #[← zeroValue T, .bool false]) else runtimePanic (.typeAssertion (some xT) (some t) T ""))).run P w := by
        unfold Instr.typeAssert
        simp only [Sem.run_bind, run_underlying hd, Result.andThen_ok]
      split at h
      · rename_i hok
        subst hok
        split at h
        · rename_i ht
          simp only [Option.some.injEq, Prod.mk.injEq] at h
          obtain ⟨rfl, rfl⟩ := h
          first | replace hp := of_decide_eq_true hp | skip
          refine ⟨.tuple [v', .bool true].toArray, ?_, .tuple (.cons hv (.cons (.bool _ _) (.nil _)))⟩
          rw [hrun, if_pos ht, if_pos rfl]
          simp
        · rename_i ht
          split at h
          · rename_i z hz
            simp only [Option.some.injEq, Prod.mk.injEq] at h
            obtain ⟨rfl, rfl⟩ := h
            first | replace hp := of_decide_eq_true hp | skip
            obtain ⟨inf, zv, hi, hzz, ha⟩ := zeroV_spec hz
            refine ⟨.tuple [zv, .bool false].toArray, ?_, .tuple (.cons (absZ_spec ha γ w true).1 (.cons (.bool _ _) (.nil _)))⟩
            rw [hrun, if_neg ht, if_pos rfl]
            simp only [Sem.run_bind, run_zeroValue hi hzz, Result.andThen_ok, Sem.run_pure]
          · cases h
      · rename_i hok
        simp only [Option.some.injEq, Prod.mk.injEq] at h
        obtain ⟨rfl, rfl⟩ := h
        first | replace hp := of_decide_eq_true hp | skip
        refine ⟨v', ?_, hv⟩
        rw [hrun, if_pos hp, if_neg hok]
        simp
  · rename_i hT
    obtain ⟨d, hd, hni⟩ := isIface_false hT
    cases hu
    split at h
    · rename_i hok
      subst hok
      split at h
      · rename_i z hz
        simp only [Option.some.injEq, Prod.mk.injEq] at h
        obtain ⟨rfl, rfl⟩ := h
        first | replace hp := of_decide_eq_true hp | skip
        obtain ⟨inf, zv, hi, hzz, ha⟩ := zeroV_spec hz
        refine ⟨.tuple [zv, .bool false].toArray, ?_, .tuple (.cons (absZ_spec ha γ w true).1 (.cons (.bool _ _) (.nil _)))⟩
        unfold Instr.typeAssert
        simp only [Sem.run_bind, run_underlying hd, Result.andThen_ok]
        cases d <;> first | exact absurd rfl (hni _) | (simp only [if_true, Sem.run_bind, run_zeroValue hi hzz, Result.andThen_ok, Sem.run_pure])
      · cases h
    · cases h
  · cases h

/-! ### Maps -/
theorem Rep.up {γ : Gh} {w : World} {l : Bool} {a : AVal} {v : Value} (h : Rep γ w l a v) : Rep γ w true a v := by
  cases l with
  | true => exact h
  | false => exact h.weaken true
theorem RepE.inv {γ : Gh} {w : World} {l : Bool} {x : AVal × AVal} {es : List (AVal × AVal)} {e : MapEntry} {ents : List MapEntry} (h : RepE γ w l (x :: es) (e :: ents)) : Rep γ w l x.1 e.key ∧ Rep γ w l x.2 e.val ∧ RepE γ w l es ents :=
  ⟨(h.2 0 x e rfl rfl).1, (h.2 0 x e rfl rfl).2, by simpa using h.1, fun i a b h1 h2 => h.2 (i + 1) a b h1 h2⟩

/-- What is found. -/
def Found (γ : Gh) (w : World) (l : Bool) (k : AVal) (es : List (AVal × AVal)) (i : Nat) (r : Option (Nat × Value)) : Prop :=
  match mapFind k es i with
  | none => r = none
  | some x => ∃ u, r = some (x.1, u) ∧ Rep γ w l x.2 u

theorem run_findAsking {P : Program} {γ : Gh} {w w0 : World} {l : Bool} {T : TypeId} {k : AVal} {uk : Value} (hk : kOk P T k = true) (hu : Rep γ w0 l k uk) : ∀ (es : List (AVal × AVal)) (ents : List MapEntry) (i : Nat), RepE γ w0 l es ents → keysOk P T es = true →
    ∃ r, (Instr.findAsking T uk ents i).run P w = .ok r w ∧ Found γ w0 l k es i r
  | [], [], i, _, _ => ⟨none, rfl, rfl⟩
  | [], _ :: _, i, h, _ => by have := h.1; simp at this
  | _ :: _, [], i, h, _ => by have := h.1; simp at this
  | x :: es, e :: ents, i, h, ho => by
    obtain ⟨h1, h2, h3⟩ := h.inv
    simp only [keysOk, List.all_cons, Bool.and_eq_true] at ho
    have hq := run_equalK (w := w) hk ho.1 hu h1
    unfold Instr.findAsking
    cases he : eqK k x.1 with
    | true =>
      rw [he] at hq
      exact ⟨some (i, e.val), by simp [hq], by simp only [Found, mapFind, he]; exact ⟨_, rfl, h2⟩⟩
    | false =>
      rw [he] at hq
      obtain ⟨r, hr, hf⟩ := run_findAsking (w := w) hk hu es ents (i + 1) h3 ho.2
      exact ⟨r, by simp [hq, hr], by simp only [Found, mapFind, he]; exact hf⟩

theorem sameNow_leaf {P : Program} {γ : Gh} {w : World} {l : Bool} {T : TypeId} {x : Leaf} {d : TypeDesc} (hd : P.underlying T = some d) (hx : leafOf P T = some x) {a b : AVal} (ha : x.fits a = true) (hb : x.fits b = true) {u v : Value} (hu : Rep γ w l a u) (hv : Rep γ w l b v) :
    Instr.sameNow d u v = some (eqC a b) := by
  rcases Leaf.spec hx with ⟨rfl, ht⟩ | ⟨k, rfl, ht⟩ | ⟨rfl, ht⟩ <;> rw [hd] at ht <;> cases ht
  · obtain ⟨_, x, rfl⟩ : Leaf.bool = .bool ∧ ∃ x, a = .bool x := by rcases fits_spec ha with h | ⟨_, _, h, _⟩ | ⟨h, _⟩ <;> first | exact h | cases h
    obtain ⟨_, y, rfl⟩ : Leaf.bool = .bool ∧ ∃ x, b = .bool x := by rcases fits_spec hb with h | ⟨_, _, h, _⟩ | ⟨h, _⟩ <;> first | exact h | cases h
    cases hu; cases hv
    simp [Instr.sameNow, eqC]
  · obtain ⟨k', x, e, rfl⟩ : ∃ k' n, Leaf.int k = .int k' ∧ a = .int k' n := by rcases fits_spec ha with ⟨h, _⟩ | h | ⟨h, _⟩ <;> first | exact h | cases h
    obtain ⟨k2, y, e2, rfl⟩ : ∃ k' n, Leaf.int k = .int k' ∧ b = .int k' n := by rcases fits_spec hb with ⟨h, _⟩ | h | ⟨h, _⟩ <;> first | exact h | cases h
    cases e; cases e2
    cases hu; cases hv
    simp [Instr.sameNow, eqC]
  · obtain ⟨_, x, rfl⟩ : Leaf.str = .str ∧ ∃ x, a = .str x := by rcases fits_spec ha with ⟨h, _⟩ | ⟨_, _, h, _⟩ | h <;> first | exact h | cases h
    obtain ⟨_, y, rfl⟩ : Leaf.str = .str ∧ ∃ x, b = .str x := by rcases fits_spec hb with ⟨h, _⟩ | ⟨_, _, h, _⟩ | h <;> first | exact h | cases h
    cases hu; cases hv
    have : ((ByteArray.mk x.toArray == ByteArray.mk y.toArray) : Bool) = (x == y) := by
      show (x.toArray == y.toArray) = _
      simp
    simp [Instr.sameNow, eqC, this]

theorem findNow_leaf {P : Program} {γ : Gh} {w : World} {l : Bool} {T : TypeId} {x : Leaf} {d : TypeDesc} (hd : P.underlying T = some d) (hx : leafOf P T = some x) {k : AVal} {uk : Value} (hk : x.fits k = true) (hu : Rep γ w l k uk) : ∀ (es : List (AVal × AVal)) (ents : List MapEntry) (i : Nat), RepE γ w l es ents → keysOk P T es = true →
    ∃ r, Instr.findNow d uk ents i = some r ∧ Found γ w l k es i r
  | [], [], i, _, _ => ⟨none, rfl, rfl⟩
  | [], _ :: _, i, h, _ => by have := h.1; simp at this
  | _ :: _, [], i, h, _ => by have := h.1; simp at this
  | y :: es, e :: ents, i, h, ho => by
    obtain ⟨h1, h2, h3⟩ := h.inv
    simp only [keysOk, List.all_cons, Bool.and_eq_true] at ho
    have ho1 : x.fits y.1 = true := by have := ho.1; unfold kOk at this; rw [hx] at this; exact this
    have hq := sameNow_leaf hd hx hk ho1 hu h1
    have hE := eqK_leaf (b := y.1) hk
    unfold Instr.findNow
    cases he : eqC k y.1 with
    | true =>
      rw [he] at hq hE
      exact ⟨some (i, e.val), by simp [hq], by simp only [Found, mapFind, hE]; exact ⟨_, rfl, h2⟩⟩
    | false =>
      rw [he] at hq hE
      obtain ⟨r, hr, hf⟩ := findNow_leaf hd hx hk hu es ents (i + 1) h3 ho.2
      exact ⟨r, by simp [hq, hr], by simp only [Found, mapFind, hE]; exact hf⟩

theorem run_findKey {P : Program} {γ : Gh} {w w0 : World} {l : Bool} {T : TypeId} {k : AVal} {uk : Value} (hk : kOk P T k = true) (hu : Rep γ w0 l k uk) {es : List (AVal × AVal)} {ents : List MapEntry} (h : RepE γ w0 l es ents) (ho : keysOk P T es = true) :
    ∃ r, (Instr.findKey T uk ents).run P w = .ok r w ∧ Found γ w0 l k es 0 r := by
  cases hx : leafOf P T with
  | some x =>
    obtain ⟨d, hd⟩ : ∃ d, P.underlying T = some d := by rcases Leaf.spec hx with ⟨_, ht⟩ | ⟨_, _, ht⟩ | ⟨_, ht⟩ <;> exact ⟨_, ht⟩
    have hk' : x.fits k = true := by have := hk; unfold kOk at this; rw [hx] at this; exact this
    obtain ⟨r, hr, hf⟩ := findNow_leaf hd hx hk' hu es ents 0 h ho
    exact ⟨r, by simp [Instr.findKey, run_underlying hd, hr], hf⟩
  | none =>
    obtain ⟨r, hr, hf⟩ := run_findAsking (w := w) hk hu es ents 0 h ho
    have ht : ∃ fs, P.underlying T = some (.struct fs) := by
      unfold kOk at hk
      rw [hx] at hk
      simp only [] at hk
      cases ht : tPlain P T with
      | none => rw [ht] at hk; cases hk
      | some ls =>
        unfold tPlain at ht
        split at ht
        · exact ⟨_, by assumption⟩
        · cases ht
    obtain ⟨fs, hfs⟩ := ht
    refine ⟨r, ?_, hf⟩
    cases ents with
    | nil =>
      have e1 : Instr.findNow (.struct fs) uk [] 0 = some none := rfl
      have e2 : es = [] := List.eq_nil_of_length_eq_zero (by have := h.1; simpa using this)
      subst e2
      have : r = none := hf
      subst this
      simp [Instr.findKey, run_underlying hfs, e1]
    | cons e ents =>
      have e1 : Instr.findNow (.struct fs) uk (e :: ents) 0 = none := by
        unfold Instr.findNow
        have : Instr.sameNow (.struct fs) uk e.key = none := by unfold Instr.sameNow; split <;> simp_all
        rw [this]
      simp [Instr.findKey, run_underlying hfs, e1, hr]

theorem lookV_sound {P : Program} {γ : Gh} {w : World} {l : Bool} {T : TypeId} {v : AVal} {u : Value} (h : Rep γ w l v u) (ok : (lookV P T v).1 = true) : Rep γ w l (lookV P T v).2 u := by
  unfold lookV at ok ⊢
  split at ok
  · rename_i n g ht
    cases g with
    | false => exact etaC_sound h ok
    | true =>
      simp only [] at ok ⊢
      split at ok
      · rename_i shs hs
        simp only [Bool.and_eq_true, beq_iff_eq] at ok
        obtain ⟨o1, o2, o3⟩ := ok
        unfold isAggN at o1
        split at o1
        · rename_i cs
          simp only [beq_iff_eq] at o1
          cases h with
          | @agg _ _ vs hr h1 =>
            have hl := hr.length
            have := etaL_sound hr shs 0 o3 (by omega)
            rw [List.drop_zero, List.take_of_length_le (by omega)] at this
            exact .agg this h1
        · cases o1
      · cases ok
  · cases ok

theorem okVal_sound {γ : Gh} {w : World} {l : Bool} {v : AVal} {u : Value} (h : Rep γ w l v u) (ok b : Bool) : Rep γ w l (okVal ok v b) (if ok then .tuple #[u, .bool b] else u) := by
  cases ok with
  | true => exact .tuple (vs := [u, .bool b]) (.cons h (.cons (.bool _ _) (.nil _)))
  | false => exact h

theorem lookupA_sound {P : Program} {γ : Gh} {w : World} {lk : Oid → Option AObj} (hk : Ok γ w lk) {T : TypeId} {a ix : AVal} {u v : Value} (hu : Rep γ w true a u) (hv : Rep γ w true ix v) {ok : Bool} {p : Bool} {r : AVal} (h : lookupA P lk T a ix ok = some (p, r)) (hp : p) :
    Yields P γ w (Instr.lookup T u v ok) r := by
  unfold lookupA at h
  split at h
  · rename_i kt et ht
    split at h
    · rename_i z hz
      obtain ⟨inf, zv, hi, hz1, hz2⟩ := zeroV_spec hz
      have hzr := run_zeroValue hi hz1 w
      have hz3 := (absZ_spec hz2 γ w true).1
      split at h
      · simp only [Option.some.injEq, Prod.mk.injEq] at h
        obtain ⟨rfl, rfl⟩ := h
        cases hu
        have hck := run_checkKey (P := P) (w := w) (e := true) hp hv
        have hE : RepE γ w true [] ([] : List MapEntry) := ⟨rfl, fun i x e h => by simp at h⟩
        obtain ⟨r, hr, hf⟩ := run_findKey (w := w) hp hv hE rfl
        have : r = none := hf
        subst this
        refine ⟨_, ?_, okVal_sound hz3 ok false⟩
        simp [Instr.lookup, run_underlying ht, hck, hr, hzr]
      · rename_i o
        split at h
        · rename_i es ho
          simp only [Option.some.injEq, Prod.mk.injEq] at h
          obtain ⟨rfl, rfl⟩ := h
          simp only [Bool.and_eq_true] at hp
          obtain ⟨p1, p2, p3⟩ := hp
          cases hu with
          | @map _ _ b hb hl =>
            obtain ⟨b', hb2, ents, clock, hh, hr, _⟩ := hk.obj _ _ ho (by simp)
            rw [hb] at hb2
            cases hb2
            have hE : RepE γ w true es ents.toList := ⟨hr.1, fun i x e h1 h2 => ⟨(hr.2 i x e h1 h2).1.up, (hr.2 i x e h1 h2).2.up⟩⟩
            have hck : ∀ e, (Instr.checkKey e 10000 kt v).run P w = .ok () w := fun e => run_checkKey p1 hv
            obtain ⟨r, hr2, hf⟩ := run_findKey (w := w) p1 hv hE p2
            have hg : (getObj b).run P w = .ok (.map ents clock) w := by simp [getObj, Sem.run, hh]
            unfold mapVal at p3 ⊢
            unfold Found at hf
            cases hm : mapFind ix es 0 with
            | none =>
              rw [hm] at hf p3
              simp only [] at hf p3 ⊢
              subst hf
              refine ⟨_, ?_, okVal_sound (lookV_sound hz3 p3) ok _⟩
              simp [Instr.lookup, run_underlying ht, hck, hr2, hzr, hg]
            | some x =>
              rw [hm] at hf p3
              simp only [] at hf p3 ⊢
              obtain ⟨u, rfl, hru⟩ := hf
              refine ⟨_, ?_, okVal_sound (lookV_sound hru p3) ok _⟩
              simp [Instr.lookup, run_underlying ht, hck, hr2, hg]
        · cases h
      · cases h
    · cases h
  · cases h

/-- What an operation that leaves the world alone comes to. -/
def OpYields (P : Program) (γ : Gh) (w : World) (ρ : Operand → Value) (o : Oper) (r : AVal) : Prop := ∃ u, (execOp ρ o).run P w = .ok (.value u) w ∧ Rep γ w true r u

theorem Yields.op {P : Program} {γ : Gh} {w : World} {ρ : Operand → Value} {o : Oper} {r : AVal} {s : Sem Value} (h : Yields P γ w s r) (he : execOp ρ o = (do pure (.value (← s)))) : OpYields P γ w ρ o r := by
  obtain ⟨u, h1, h2⟩ := h
  exact ⟨u, by rw [he]; simp [h1], h2⟩

theorem nilCheckA_sound {P : Program} {γ : Gh} {w : World} {ρA : Operand → AVal} {ρ : Operand → Value} (hρ : ∀ x, Rep γ w true (ρA x) (ρ x)) {o : Oper} {x : Operand} (ho : o.op = .nilCheck x) {p : Bool} {r : AVal} (h : nilCheckA (ρA x) = some (p, r)) :
    OpYields P γ w ρ o r := by
  have hx := hρ x
  unfold nilCheckA at h
  split at h <;> simp only [Option.some.injEq, Prod.mk.injEq, reduceCtorEq] at h
  all_goals
    rename_i e
    obtain ⟨_, rfl⟩ := h
    rw [e] at hx
    generalize hy : ρ x = y at hx
    refine ⟨y, ?_, hx⟩
    cases hx
    simp [execOp, ho, hy]

theorem RepL.map {γ : Gh} {w : World} {ρA : Operand → AVal} {ρ : Operand → Value} (hρ : ∀ x, Rep γ w true (ρA x) (ρ x)) : ∀ xs : List Operand, RepL γ w true (xs.map ρA) (xs.map ρ)
  | [] => .nil _
  | x :: xs => .cons (hρ x) (RepL.map hρ xs)

theorem builtinA_sound {P : Program} {γ : Gh} {w : World} {lk : Oid → Option AObj} (hk : Ok γ w lk) {b : Builtin} {ts : List TypeId} {xs : List AVal} {us : List Value} (hu : RepL γ w true xs us) {p : Bool} {r : AVal}
    (h : builtinA P lk b ts xs = some (p, r)) (hp : p) (ty : TypeId) (cs : Array Bool) : ∃ u, (builtin b ts.toArray ty cs us.toArray).run P w = .ok (.value u) w ∧ Rep γ w true r u := by
  unfold builtinA at h
  split at h
  · rename_i t x
    cases hu with
    | cons hx hn =>
      cases hn
      obtain ⟨u, h1, h2⟩ := lenA_sound hk hx h hp ty
      exact ⟨u, by simp [builtin, h1], h2⟩
  · rename_i t x
    cases hu with
    | cons hx hn =>
      cases hn
      obtain ⟨u, h1, h2⟩ := capA_sound (P := P) hx h ty
      exact ⟨u, by simp [builtin, h1], h2⟩
  · rename_i x r'
    cases hu with
    | cons hx hn =>
      rename_i v vs
      cases hm : maxA x r' with
      | none => rw [hm] at h; cases h
      | some y =>
        rw [hm] at h
        simp only [Option.map_some, Option.some.injEq, Prod.mk.injEq] at h
        obtain ⟨_, rfl⟩ := h
        obtain ⟨u, h1, h2⟩ := maxA_sound (P := P) hm hx hn
        exact ⟨u, by simp [builtin, Builtin.max_, h1], h2⟩
  · rename_i x r'
    cases hu with
    | cons hx hn =>
      rename_i v vs
      cases hm : minA x r' with
      | none => rw [hm] at h; cases h
      | some y =>
        rw [hm] at h
        simp only [Option.map_some, Option.some.injEq, Prod.mk.injEq] at h
        obtain ⟨_, rfl⟩ := h
        obtain ⟨u, h1, h2⟩ := minA_sound (P := P) hm hx hn
        exact ⟨u, by simp [builtin, Builtin.min_, h1], h2⟩
  · cases h

/-- EVERY OPERATION THAT LEAVES THE WORLD ALONE. -/
theorem pureOp_sound {P : Program} {γ : Gh} {w : World} {ρA : Operand → AVal} {ρ : Operand → Value} (hρ : ∀ x, Rep γ w true (ρA x) (ρ x)) {lk : Oid → Option AObj} (hk : Ok γ w lk) {o : Oper} {p : Bool} {r : AVal}
    (h : pureOp P ρA lk o.op = some (p, r)) (hp : p) : OpYields P γ w ρ o r := by
  unfold pureOp at h
  split at h
  · rename_i x e
    simp only [Option.some.injEq, Prod.mk.injEq] at h
    obtain ⟨_, rfl⟩ := h
    exact ⟨ρ x, by simp [execOp, e], hρ x⟩
  · rename_i x e
    simp only [Option.some.injEq, Prod.mk.injEq] at h
    obtain ⟨_, rfl⟩ := h
    exact ⟨ρ x, by simp [execOp, e], hρ x⟩
  · rename_i c a b e
    unfold pickA at h
    split at h
    · rename_i t ec
      simp only [Option.some.injEq, Prod.mk.injEq] at h
      obtain ⟨_, rfl⟩ := h
      have hc := hρ c
      rw [ec] at hc
      have hcv : ρ c = .bool t := by generalize ρ c = y at hc; cases hc; rfl
      cases t
      · exact ⟨ρ b, by simp [execOp, e, hcv, asBool], hρ b⟩
      · exact ⟨ρ a, by simp [execOp, e, hcv, asBool], hρ a⟩
    · cases h
  · rename_i x e
    exact nilCheckA_sound hρ e h
  · rename_i op T x y yt e
    obtain ⟨z, h1, h2⟩ := binA_sound (P := P) (w := w) h hp (hρ x) (hρ y) (x := x) (y := y) (fun hn => hn)
    exact ⟨z, by simp only [execOp, e]; simp only [Sem.run_bind] at h1 ⊢; rw [h1]; rfl, h2⟩
  · rename_i op T x e
    exact (unA_sound (hρ x) h hp).op (by simp [execOp, e])
  · rename_i src dst x e
    exact (convA_sound hk (hρ x) h hp).op (by simp [execOp, e])
  · rename_i T x e
    split at h
    · rename_i hT
      simp only [Option.some.injEq, Prod.mk.injEq] at h
      obtain ⟨_, rfl⟩ := h
      obtain ⟨d, hd, hni⟩ := isIface_false hT
      refine ⟨.iface T (ρ x), ?_, .iface (hρ x)⟩
      simp only [execOp, e, Instr.makeInterface, Sem.run_bind, run_underlying hd, Result.andThen_ok]
      cases d <;> first | exact absurd rfl (hni _) | rfl
    · cases h
  · rename_i fn f c e
    simp only [Option.some.injEq, Prod.mk.injEq] at h
    obtain ⟨_, rfl⟩ := h
    have hf := RepL.map hρ f.toList
    have hc := RepL.map hρ c.toList
    refine ⟨_, ?_, .func hf hc⟩
    have e1 : f.map ρ = (f.toList.map ρ).toArray := Array.ext' (by simp)
    have e2 : c.map ρ = (c.toList.map ρ).toArray := Array.ext' (by simp)
    simp only [execOp, e, Instr.makeFunc, e1, e2]
    rfl
  · rename_i T x lo hi mx e
    exact (sliceA_sound hρ h hp).op (by simp [execOp, e])
  · rename_i S x i e
    exact (fieldAddrA_sound (hρ x) h hp).op (by simp [execOp, e])
  · rename_i S x i e
    exact (fieldA_sound (hρ x) h hp).op (by simp [execOp, e])
  · rename_i T x i e
    exact (indexAddrA_sound (hρ x) (hρ i) h hp).op (by simp [execOp, e])
  · rename_i T x i e
    exact (indexA_sound (hρ x) (hρ i) h hp).op (by simp [execOp, e])
  · rename_i T x e
    exact (loadA_sound hk (hρ x) h hp).op (by simp [execOp, e])
  · rename_i T x i ok e
    exact (lookupA_sound hk (hρ x) (hρ i) h hp).op (by simp [execOp, e])
  · rename_i T ps e
    exact (buildA_sound hρ h hp).op (by simp [execOp, e])
  · rename_i x xT T ok e
    exact (assertA_sound (xT := xT) (hρ x) h hp).op (by simp [execOp, e])
  · rename_i t i e
    split at h
    · rename_i vs ht
      split at h
      · rename_i a ha
        simp only [Option.some.injEq, Prod.mk.injEq] at h
        obtain ⟨_, rfl⟩ := h
        have hx := hρ t
        rw [ht] at hx
        generalize hy : ρ t = y at hx
        cases hx with
        | tuple hr =>
          obtain ⟨u, hu, hra⟩ := hr.get ha
          refine ⟨u, ?_, hra⟩
          simp [execOp, e, hy, Instr.extract, hu]
      · cases h
    · cases h
  · rename_i b args ts e
    obtain ⟨cs, hrun⟩ : ∃ cs, (execOp ρ o).run P w = (builtin b ts o.type cs (args.map ρ)).run P w := ⟨_, by
      simp only [execOp, e, resolve, Sem.run_bind, Sem.run_pure, Result.andThen_ok, invoke]; rfl⟩
    obtain ⟨u, h1, h2⟩ := builtinA_sound hk (RepL.map hρ args.toList) h hp o.type cs
    refine ⟨u, ?_, h2⟩
    have e1 : (args.toList.map ρ).toArray = args.map ρ := Array.ext' (by simp)
    rw [hrun, ← e1]
    simpa using h1
  · cases h

end
end Go.AL
