/-
  The abstract layer, part 7: append.
-/
import Derived.Test.YtakidnohmfebmaaA6
namespace Go.AL
noncomputable section
set_option linter.unusedSimpArgs false
set_option linter.unusedVariables false

def ofByte (b : UInt8) : AVal := .int .u8 b.toNat

/-- What is appended: the elements. -/
def srcA (P : Program) (lk : Oid → Option AObj) (n : Nat) (T : TypeId) : AVal → Option (Bool × List AVal)
  | .slice es s tag =>
    match tElem P T with
    | some _ => if s = n ∨ tag.isNil = true then some (true, es) else none
    | none => none
  | .str l => if isStr P T ∧ n = 1 then some (true, l.map ofByte) else none
  | .arr o off len _ =>
    match tElem P T, lk o with
    | some _, some (.cells cs) => if n = 1 then some (decide (off + len ≤ cs.length ∧ noLocL ((cs.drop off).take len) = true), (cs.drop off).take len) else none
    | _, _ => none
  | _ => none

def appendA (P : Program) (lk : Oid → Option AObj) (σ : Sto) (T T' : TypeId) (s x : AVal) : Option (Bool × AVal × Sto) :=
  match tElem P T, s with
  | some (_, n, bs, zs), .slice es s0 tag =>
    if 0 < n ∧ zs.length = n ∧ (s0 = n ∨ tag.isNil = true) then
      match srcA P lk n T' x with
      | some (q, es') =>
        match tag with
        | .own p => some (decide (q ∧ σ.own p = some es.length ∧ (es.length + es'.length) * bs ≤ 140737488355328 ∧ es.length + es'.length ≤ 9223372036854775807), .slice (es ++ es') n (.own p), σ.setOwn p (es.length + es'.length))
        | .ro => none
        | .nil => some (decide (q ∧ es'.length * bs ≤ 140737488355328 ∧ es'.length ≤ 9223372036854775807), .slice es' n (.own σ.nown), σ.pushOwn es'.length)
        | .full => some (decide (q ∧ (es.isEmpty = true ∨ 0 < es'.length) ∧ (es.length + es'.length) * bs ≤ 140737488355328 ∧ es.length + es'.length ≤ 9223372036854775807), .slice (es ++ es') n (.own σ.nown), σ.pushOwn (es.length + es'.length))
      | none => none
    else none
  | _, _ => none

theorem flat_length {s : Nat} : ∀ {es : List AVal}, (∀ e ∈ es, e.cells.length = s) → (flat es).length = es.length * s
  | [], _ => by simp [flat]
  | x :: es, h => by
    have := flat_length (es := es) (fun e he => h e (by simp [he]))
    simp only [flat, List.flatMap_cons, List.length_append, List.length_cons] at this ⊢
    rw [this, h x (by simp), Nat.succ_mul, Nat.add_comm]

theorem flat_append (as bs : List AVal) : flat (as ++ bs) = flat as ++ flat bs := by simp [flat]

theorem cells_one {γ : Gh} {w : World} {l : Bool} {a : AVal} {v : Value} (h : Rep γ w l a v) (h1 : v.oneCell' = true) : a.cells = [a] := by
  cases h <;> first | rfl | cases h1

theorem flat_ones {γ : Gh} {w : World} {l : Bool} : ∀ {as : List AVal} {vs : List Value}, RepL γ w l as vs → (∀ v ∈ vs, v.oneCell' = true) → flat as = as ∧ ∀ e ∈ as, e.cells.length = 1
  | _, _, .nil _, _ => ⟨rfl, fun _ h => by cases h⟩
  | _, _, .cons h t, h1 => by
    have hc := cells_one h (h1 _ (by simp))
    obtain ⟨g1, g2⟩ := flat_ones t (fun v hv => h1 v (by simp [hv]))
    refine ⟨by simp only [flat, List.flatMap_cons, hc] at g1 ⊢; rw [g1]; rfl, fun e he => ?_⟩
    rcases List.mem_cons.1 he with rfl | he
    · rw [hc]; rfl
    · exact g2 e he

theorem run_firstCells_zero {P : Program} (w : World) (n len cap : Nat) (base : Option Addr) : (Builtin.firstCells n 0 (.slice base len cap)).run P w = .ok #[] w := by
  cases base with
  | none => exact run_firstCells_none w n 0 len cap
  | some a => exact run_firstCells_some w n 0 a len cap [] (by simp) (fun j v hj => by simp at hj)

theorem Src.ofHole {P : Program} {w : World} {size : Nat} {tx e' : TypeId} (hk : P.underlying tx = some (.slice e')) (o : Option Addr) (c : Nat) : Src P size tx (.slice o 0 c) 0 [] w := by
  cases o with
  | none => exact Src.ofNil w hk c
  | some a => exact Src.ofSlice w hk a 0 c [] (by simp) (fun j v hj => by simp at hj) (fun _ h => by cases h)

theorem srcA_sound {P : Program} {γ : Gh} {w : World} {lk : Oid → Option AObj} (hk : Ok γ w lk) {n : Nat} {T : TypeId} {x : AVal} {u : Value} (hu : Rep γ w true x u) {q : Bool} {es : List AVal} (h : srcA P lk n T x = some (q, es)) (hq : q) :
    ∃ news, Src P n T u es.length news w ∧ RepL γ w false (flat es) news ∧ (∀ e ∈ es, e.cells.length = n) ∧ ∀ v ∈ news, v.oneCell' = true := by
  unfold srcA at h
  split at h
  · rename_i es0 s tag
    split at h
    · rename_i te hte
      obtain ⟨e, n', bs, zs⟩ := te
      obtain ⟨inf, z, g1, _⟩ := tElem_spec hte
      split at h
      · rename_i hn
        simp only [Option.some.injEq, Prod.mk.injEq] at h
        obtain ⟨_, rfl⟩ := h
        cases hu with
        | @sliceRow _ _ _ _ b off cap vs hr hse hc h1 hnc hm ht =>
          have hns : s = n := by
            rcases hn with hn | hn
            · exact hn
            · cases tag <;> simp [Tag.isNil] at hn
              exact ht.elim
          subst hns
          refine ⟨vs, Src.ofSlice w g1 _ _ _ vs ?_ (fun j v hj => by rw [addr_add]; exact (hc j v hj).2) h1, hr, hse, h1⟩
          rw [← hr.length, flat_length hse]
        | @sliceNil _ _ _ oo ht ho => exact ⟨[], Src.ofHole g1 oo 0, .nil _, by simp, by simp⟩
      · cases h
    · cases h
  · rename_i l
    split at h
    · rename_i hs
      simp only [Option.some.injEq, Prod.mk.injEq] at h
      obtain ⟨_, rfl⟩ := h
      cases hu
      have hb : byteCells ⟨l.toArray⟩ = l.map fun b => Value.int .u8 b.toNat := by simp [byteCells]
      have hl : (ByteArray.mk l.toArray).size = l.length := by simp [ByteArray.size]
      have hsrc := Src.ofString w (isStr_spec hs.1) ⟨l.toArray⟩
      rw [hb, hl] at hsrc
      obtain ⟨_, rfl⟩ := hs
      have hrep : ∀ l : List UInt8, RepL γ w false (l.map ofByte) (l.map fun b => Value.int .u8 b.toNat) := by
        intro l
        induction l with
        | nil => exact .nil _
        | cons b l ih => exact .cons (.int _ _ _) ih
      have hone : ∀ v ∈ (l.map fun b => Value.int .u8 b.toNat), v.oneCell' = true := by
        intro v hv
        obtain ⟨_, _, rfl⟩ := List.mem_map.1 hv
        rfl
      obtain ⟨f1, f2⟩ := flat_ones (hrep l) hone
      exact ⟨_, by simpa using hsrc, by rw [f1]; exact hrep l, f2, hone⟩
    · cases h
  · rename_i o off len cap
    split at h
    · rename_i te cs hte hcs
      split at h
      · rename_i hn
        simp only [Option.some.injEq, Prod.mk.injEq] at h
        obtain ⟨rfl, rfl⟩ := h
        first | replace hq := of_decide_eq_true hq | skip
        subst hn
        obtain ⟨e, n', bs, zs⟩ := te
        obtain ⟨inf, z, g1, _⟩ := tElem_spec hte
        cases hu with
        | @arr _ _ _ off' _ _ b hb ho hnc h0 =>
          obtain ⟨b', hb2, vs, T', hh, hr, h1, hni⟩ := hk.obj _ _ hcs (by simp)
          rw [hb] at hb2
          cases hb2
          have hr2 := RepL.noLoc ((hr.drop off).take len) hq.2
          have hone : ∀ v ∈ (vs.drop off).take len, v.oneCell' = true := fun v hv => h1 v (List.mem_of_mem_drop (List.mem_of_mem_take hv))
          obtain ⟨f1, f2⟩ := flat_ones hr2 hone
          have hlv := hr.length
          have hlen : ((cs.drop off).take len).length = len := by simp; omega
          have hlen2 : ((vs.drop off).take len).length = len := by simp; omega
          refine ⟨(vs.drop off).take len, ?_, by rw [f1]; exact hr2, f2, hone⟩
          rw [hlen]
          refine Src.ofSlice w g1 _ _ _ _ (by simp; omega) (fun j v hj => ?_) hone
          rw [addr_add]
          rw [List.getElem?_take] at hj
          split at hj
          · rw [List.getElem?_drop] at hj
            obtain rfl := h0 (by omega)
            simp only [World.cell?, hh]
            simpa using hj
          · cases hj
      · cases h
    · cases h
  · cases h

/-- The growing arm: the elements come to stand in a new row. -/
theorem append_grow {P : Program} {γ : Gh} {w : World} {a : Act} {st : St} (hC : Conc γ w a st) {T T' e n bs : Nat} {inf : TypeInfo} {z : Value} (g1 : P.underlying T = some (.slice e)) (g2 : P.info? e = some inf) (g3 : inf.size = n) (g4 : inf.bytes = bs) (g5 : inf.zero = some z)
    (hz : z.cells.size = n) (hn : 0 < n) {base : Option Addr} {cap : Nat} {es es' : List AVal} {olds news : List Value} (hold : (Builtin.firstCells n es.length (.slice base es.length cap)).run P w.drew = .ok olds.toArray w.drew)
    (ho : RepL γ w false (flat es) olds) (hes : ∀ e ∈ es, e.cells.length = n) (ho1 : ∀ v ∈ olds, v.oneCell' = true) {x : Value} (hs : Src P n T' x es'.length news w) (hw : RepL γ w false (flat es') news) (hes' : ∀ e ∈ es', e.cells.length = n) (hw1 : ∀ v ∈ news, v.oneCell' = true)
    (hg : cap < es.length + es'.length) (h63 : es.length + es'.length ≤ 9223372036854775807) (hb : (es.length + es'.length) * bs ≤ 140737488355328) {p : Nat}
    (hstep : ∀ b c, OwnStep (γ.own p) (.row b c (es.length + es'.length) n)) {σ' : Sto} (hob : σ'.obj = st.σ.obj) (hno : σ'.nobj = st.σ.nobj) (hww : σ'.own = fun q => if q = p then some (es.length + es'.length) else st.σ.own q) (hnw : p < σ'.nown) (hnw2 : st.σ.nown ≤ σ'.nown) (ty : TypeId) :
    ∃ γ' w' v, (Builtin.append_ #[T, T'] ty #[.slice base es.length cap, x]).run P w = .ok v w' ∧ Rep γ' w' true (.slice (es ++ es') n (.own p)) v ∧ Conc γ' w' a { st with σ := σ' } ∧ EvoS γ w st γ' w' { st with σ := σ' } := by
  subst g3; subst g4
  have hrun := run_append_grow_src w T T' ty e inf z g1 g2 g5 base es.length cap olds hold x es'.length news hs hg (by omega) (growslice_fits hg hb)
  have hm : grownCap w (es.length + es'.length) cap e ≤ maxLen := grownCap_le_maxLen w _ _ e (by simp [maxLen]; omega)
  have hge := grownCap_ge w (es.length + es'.length) cap e
  have hlo := ho.length
  have hln := hw.length
  rw [flat_length hes] at hlo
  rw [flat_length hes'] at hln
  have hcur : ((olds ++ news).toArray ++ Builtin.zeroCells z.cells (grownCap w (es.length + es'.length) cap e - (es.length + es'.length))).size = grownCap w (es.length + es'.length) cap e * inf.size := by
    simp only [Array.size_append, List.size_toArray, List.length_append, size_zeroCells, hz, ← hlo, ← hln, ← Nat.add_mul]
    congr 1
    omega
  obtain ⟨hC', hE, hX⟩ := hC.ownNew (w1 := w.drew.alloc (.cells ((olds ++ news).toArray ++ Builtin.zeroCells z.cells (grownCap w (es.length + es'.length) cap e - (es.length + es'.length))) e)) (p := p) (n := es.length + es'.length) (s := inf.size) rfl rfl rfl rfl hn hcur hge hm (hstep _ _) hob hno hww hnw hnw2
  refine ⟨_, _, _, hrun, ?_, hC', hE⟩
  have hrep : RepL γ w false (flat (es ++ es')) (olds ++ news) := by rw [flat_append]; exact RepL.append hw ho
  have hes2 : ∀ e ∈ es ++ es', e.cells.length = inf.size := fun e he => (List.mem_append.1 he).elim (hes e) (hes' e)
  have hlen : (es ++ es').length = es.length + es'.length := List.length_append
  generalize hN : es.length + es'.length = N at *
  have key := Rep.sliceRow (γ := γ.setOwn p (Own.row w.heap.size (grownCap w N cap e) N inf.size) w.heap.size 0 (N * inf.size)) (l := true) (tag := .own p) (b := w.heap.size) (off := 0) (cap := grownCap w N cap e) (vs := olds ++ news) (RepL.mono hX.weak hrep) hes2 (fun j v hj => by
    have hlt : j < (olds ++ news).length := by
      rcases Nat.lt_or_ge j (olds ++ news).length with h1 | h1
      · exact h1
      · rw [List.getElem?_eq_none h1] at hj; cases hj
    have hj2 : j < N * inf.size := by rw [List.length_append, ← hlo, ← hln, ← Nat.add_mul, hN] at hlt; exact hlt
    refine ⟨.inr ⟨rfl, by omega, by omega⟩, ?_⟩
    have hnew := heap_alloc_new w.drew (.cells ((olds ++ news).toArray ++ Builtin.zeroCells z.cells (grownCap w N cap e - N)) e)
    have hnew' : (w.drew.alloc (.cells ((olds ++ news).toArray ++ Builtin.zeroCells z.cells (grownCap w N cap e - N)) e)).heap[w.heap.size]? = _ := hnew
    simp only [World.cell?, hnew', Nat.zero_add]
    simp only [Option.isSome_none, Bool.false_eq_true, if_false]
    rw [Array.getElem?_append_left (by simpa using hlt)]
    simpa using hj) (fun v hv => (List.mem_append.1 hv).elim (ho1 v) (hw1 v)) (by rw [hlen]; exact hge) hm (by
      simp only [AL.tagRow, Gh.setOwn, if_true, Own.isRow]
      exact ⟨by omega, fun _ => by simp⟩)
  rw [hlen] at key
  exact key

theorem run_firstCells_row {P : Program} {γ : Gh} {w : World} {b off n len cap : Nat} {vs : List Value} (hc : AL.cellsAt γ w b off vs) (hl : vs.length = len * n) : (Builtin.firstCells n len (.slice (some ⟨b, off, none⟩) len cap)).run P w.drew = .ok vs.toArray w.drew :=
  run_firstCells_some w.drew n len ⟨b, off, none⟩ len cap vs hl (fun j v hj => by rw [addr_add]; exact (hc j v hj).2)

theorem run_append_same {P : Program} {w : World} {T T' e n : Nat} {inf : TypeInfo} (g1 : P.underlying T = some (.slice e)) (g2 : P.info? e = some inf) (base : Option Addr) (len cap : Nat) (hlc : len ≤ cap) {x : Value} (hs : Src P n T' x 0 [] w) (g3 : inf.size = n) (ty : TypeId) :
    (Builtin.append_ #[T, T'] ty #[.slice base len cap, x]).run P w = .ok (.slice base len cap) w := by
  have hk := hs.kind
  have h0 : len + 0 ≤ cap := hlc
  have hc := hs.cells
  rcases hk with ⟨e', hk⟩ | hk <;> cases base <;>
    simp [Builtin.append_, run_underlying g1, run_underlying hk, sizeOf, typeInfo, g2, g3, hs.len, hlc, hc, storeCells]

theorem appendA_sound {P : Program} {γ : Gh} {w : World} {a : Act} {st : St} (hC : Conc γ w a st) {T T' : TypeId} {so xo : Operand} {q : Bool} {r : AVal} {σ' : Sto}
    (h : appendA P st.objAt st.σ T T' (st.eval so) (st.eval xo) = some (q, r, σ')) (hq : q) (ty : TypeId) :
    ∃ γ' w' v, (Builtin.append_ #[T, T'] ty #[a.eval so, a.eval xo]).run P w = .ok v w' ∧ Rep γ' w' true r v ∧ Conc γ' w' a { st with σ := σ' } ∧ EvoS γ w st γ' w' { st with σ := σ' } := by
  have hS := hC.eval so
  have hX := hC.eval xo
  generalize a.eval so = u at hS ⊢
  generalize a.eval xo = x at hX ⊢
  unfold appendA at h
  split at h
  · rename_i e n bs zs es s0 tag he hes0
    rw [hes0] at hS
    obtain ⟨inf, z, g1, g2, g3, g4, g5, g6⟩ := tElem_spec he
    split at h
    · rename_i hc
      obtain ⟨hn, hzl, hs0⟩ := hc
      have hz : z.cells.size = n := by rw [← hzl, g6]; simp
      split at h
      · rename_i q' es' hsrc
        -- what the second argument yields, once its premise is known
        have src : q' → ∃ news, Src P n T' x es'.length news w ∧ RepL γ w false (flat es') news ∧ (∀ e ∈ es', e.cells.length = n) ∧ ∀ v ∈ news, v.oneCell' = true := fun hq' => srcA_sound hC.ok hX hsrc hq'
        split at h
        · -- a permission
          rename_i p
          simp only [Option.some.injEq, Prod.mk.injEq] at h
          obtain ⟨rfl, rfl, rfl⟩ := h
          first | replace hq := of_decide_eq_true hq | skip
          obtain ⟨q1, q2, q3, q4⟩ := hq
          obtain ⟨news, s1, s2, s3, s4⟩ := src q1
          have hln := s2.length
          rw [flat_length s3] at hln
          have hok := hC.inv.own p _ q2
          have grow : ∀ (base : Option Addr) (cap : Nat) (olds : List Value), (Builtin.firstCells n es.length (.slice base es.length cap)).run P w.drew = .ok olds.toArray w.drew → RepL γ w false (flat es) olds → (∀ e ∈ es, e.cells.length = n) → (∀ v ∈ olds, v.oneCell' = true) →
              cap < es.length + es'.length → 0 < es'.length → ∃ γ' w' v, (Builtin.append_ #[T, T'] ty #[.slice base es.length cap, x]).run P w = .ok v w' ∧ Rep γ' w' true (.slice (es ++ es') n (.own p)) v ∧ Conc γ' w' a { st with σ := st.σ.setOwn p (es.length + es'.length) } ∧ EvoS γ w st γ' w' { st with σ := st.σ.setOwn p (es.length + es'.length) } := by
            intro base cap olds f1 f2 f3 f4 f5 f6
            have hp : p < st.σ.nown := by
              rcases Nat.lt_or_ge p st.σ.nown with h1 | h1
              · exact h1
              · have := hC.inv.freshW p h1; rw [this] at hok; exact hok.elim
            refine append_grow (σ' := st.σ.setOwn p (es.length + es'.length)) hC g1 g2 g3 g4 g5 hz hn f1 f2 f3 f4 s1 s2 s3 s4 f5 q4 q3 (fun b c => ?_) rfl rfl rfl hp (Nat.le_refl _) ty
            cases hg : γ.own p with
            | free => rw [hg] at hok; exact hok.elim
            | dead => rw [hg] at hok; exact hok.elim
            | full n' => rw [hg] at hok; exact .inr (.inr ⟨_, _, _, _, rfl, by have : n' = es.length := hok; omega⟩)
            | row b' c' n' s' => rw [hg] at hok; exact .inr (.inr ⟨_, _, _, _, rfl, by have := hok.1; omega⟩)
          cases hS with
          | @sliceRow _ _ _ _ b off cap vs hr hse hcA h1 hnc hm ht =>
            have hsn : s0 = n := by
              rcases hs0 with h2 | h2
              · exact h2
              · simp [Tag.isNil] at h2
            subst hsn
            have hlv := hr.length
            rw [flat_length hse] at hlv
            by_cases hroom : es.length + es'.length ≤ cap
            · by_cases hm0 : es'.length = 0
              · have hnil : es' = [] := List.eq_nil_of_length_eq_zero hm0
                subst hnil
                have hnews : news = [] := List.eq_nil_of_length_eq_zero (by simpa using hln.symm)
                subst hnews
                refine ⟨γ, w, _, run_append_same g1 g2 _ _ _ hnc s1 g3 ty, ?_, ?_, ?_⟩
                · simp only [List.append_nil]; exact .sliceRow hr hse hcA h1 hnc hm ht
                · have e1 : st.σ.setOwn p (es.length + ([] : List AVal).length) = st.σ := by
                    simp only [Sto.setOwn, List.length_nil, Nat.add_zero]
                    have : (fun q => if q = p then some es.length else st.σ.own q) = st.σ.own := by
                      funext q
                      split
                      · rename_i e1; rw [e1, q2]
                      · rfl
                    rw [this]
                  rw [e1]; exact hC
                · have e1 : st.σ.setOwn p (es.length + ([] : List AVal).length) = st.σ := by
                    simp only [Sto.setOwn, List.length_nil, Nat.add_zero]
                    have : (fun q => if q = p then some es.length else st.σ.own q) = st.σ.own := by
                      funext q
                      split
                      · rename_i e1; rw [e1, q2]
                      · rfl
                    rw [this]
                  rw [e1]; exact Evo.refl _ _ _ _
              · -- in place
                simp only [AL.tagRow] at ht
                cases hg : γ.own p with
                | free => rw [hg] at hok; exact hok.elim
                | dead => rw [hg] at hok; exact hok.elim
                | full n' => rw [hg] at ht hok; simp only [Own.isRow] at ht; have : n' = es.length := hok; omega
                | row b' cap' n' s' =>
                  rw [hg] at ht hok
                  obtain ⟨k1, k2, k3, k4, ⟨cur, Tc, k5, k6⟩, k7⟩ := hok
                  obtain ⟨_, ht2⟩ := ht
                  obtain ⟨rfl, rfl, rfl, rfl⟩ := ht2 k1.symm
                  subst k1
                  have hroom2 : es.length + es'.length ≤ cap := hroom
                  have hcurl : es.length * s0 + news.length ≤ cur.size := by rw [← hln, k6, ← Nat.add_mul]; exact Nat.mul_le_mul_right _ hroom
                  have hst := run_storeCells_at P b (0 + es.length * s0) Tc news 0 cur w k5 (by simpa using hcurl) s4
                  simp only [Nat.add_zero, Nat.zero_add] at hst
                  have hrun : (Builtin.append_ #[T, T'] ty #[.slice (some ⟨b, 0, none⟩) es.length cap, x]).run P w = .ok (.slice (some ⟨b, 0, none⟩) (es.length + es'.length) cap) (w.setRow b (cur.toList.take (es.length * s0) ++ news ++ cur.toList.drop (es.length * s0 + news.length)).toArray) := by
                    rcases s1.kind with ⟨e', hk⟩ | hk <;> simp [Builtin.append_, run_underlying g1, run_underlying hk, sizeOf, typeInfo, g2, g3, s1.len, hroom, s1.cells, Addr.add_lit, hst]
                  obtain ⟨c1, c2, c3, c4⟩ := hC.ownIn (p := p) (n := es.length) (m := es'.length) (s := s0) q2 hg k5 k6 hln.symm hroom rfl (by omega)
                  refine ⟨_, _, _, hrun, ?_, c1, c2⟩
                  have hlen : (es ++ es').length = es.length + es'.length := List.length_append
                  have hcells : AL.cellsAt (γ.setOwn p (.row b cap (es.length + es'.length) s0) b (es.length * s0) ((es.length + es'.length) * s0)) (w.setRow b (cur.toList.take (es.length * s0) ++ news ++ cur.toList.drop (es.length * s0 + news.length)).toArray) b 0 (vs ++ news) :=
                    (c3.cellsAt hcA).append (by rw [← hlv, Nat.zero_add]; exact c4)
                  generalize hN : es.length + es'.length = N at *
                  have key := Rep.sliceRow (γ := γ.setOwn p (.row b cap N s0) b (es.length * s0) (N * s0)) (l := true) (tag := .own p) (cap := cap) (vs := vs ++ news) (RepL.mono c3.weak (by rw [flat_append]; exact RepL.append s2 hr : RepL γ w false (flat (es ++ es')) (vs ++ news)))
                    (fun e he => (List.mem_append.1 he).elim (hse e) (s3 e)) hcells (fun v hv => (List.mem_append.1 hv).elim (h1 v) (s4 v)) (by rw [hlen]; exact hroom) hm (by
                      simp only [AL.tagRow, Gh.setOwn, if_true, Own.isRow]
                      exact ⟨by omega, fun _ => by simp⟩)
                  rw [hlen] at key
                  exact key
            · exact grow _ cap vs (run_firstCells_row hcA hlv.symm) hr hse h1 (by omega) (by omega)
          | @sliceNil _ _ _ oo ht ho =>
            by_cases hm0 : es'.length = 0
            · have hnil : es' = [] := List.eq_nil_of_length_eq_zero hm0
              subst hnil
              have hnews : news = [] := List.eq_nil_of_length_eq_zero (by simpa using hln.symm)
              subst hnews
              have e1 : st.σ.setOwn p (([] : List AVal).length + ([] : List AVal).length) = st.σ := by
                simp only [Sto.setOwn, List.length_nil, Nat.add_zero]
                have : (fun q => if q = p then some 0 else st.σ.own q) = st.σ.own := by
                  funext q
                  split
                  · rename_i e1; rw [e1, q2]; rfl
                  · rfl
                rw [this]
              refine ⟨γ, w, _, run_append_same g1 g2 _ _ _ (Nat.le_refl _) s1 g3 ty, ?_, ?_, ?_⟩
              · exact .sliceNil ht ho
              · rw [e1]; exact hC
              · rw [e1]; exact Evo.refl _ _ _ _
            · exact grow oo 0 [] (run_firstCells_zero w.drew n 0 0 oo) (.nil _) (fun _ h => by cases h) (fun _ h => by cases h) (by simp; omega) (by omega)
        · cases h
        · -- a nil slice
          simp only [Option.some.injEq, Prod.mk.injEq] at h
          obtain ⟨rfl, rfl, rfl⟩ := h
          first | replace hq := of_decide_eq_true hq | skip
          obtain ⟨q1, q3, q4⟩ := hq
          obtain ⟨news, s1, s2, s3, s4⟩ := src q1
          have hln := s2.length
          rw [flat_length s3] at hln
          cases hS with
          | sliceRow hr hse hcA h1 hnc hm ht => exact ht.elim
          | sliceNil ht ho =>
            obtain rfl := ho.resolve_right (by simp [Tag.isNil])
            by_cases hm0 : es'.length = 0
            · have hnil : es' = [] := List.eq_nil_of_length_eq_zero hm0
              subst hnil
              have hnews : news = [] := List.eq_nil_of_length_eq_zero (by simpa using hln.symm)
              subst hnews
              obtain ⟨c1, c2, c3⟩ := hC.ownFull 0
              refine ⟨_, w, _, run_append_same g1 g2 _ _ _ (Nat.le_refl _) s1 g3 ty, ?_, c1, c2⟩
              exact .sliceNil (by simp [AL.tagNil, Own.isNil]) (.inl rfl)
            · have := append_grow (σ' := st.σ.pushOwn (([] : List AVal).length + es'.length)) (es := []) (olds := []) (base := none) (cap := 0) (p := st.σ.nown) hC g1 g2 g3 g4 g5 hz hn (run_firstCells_none w.drew n 0 0 0) (.nil _) (fun _ h => by cases h) (fun _ h => by cases h) s1 s2 s3 s4 (by simp; omega)
                (by simpa using q4) (by simpa using q3) (fun b c => by rw [hC.inv.freshW _ (Nat.le_refl _)]; trivial) rfl rfl (by simp [Sto.pushOwn]) (by simp [Sto.pushOwn]) (by simp [Sto.pushOwn]) ty
              simpa using this
        · -- a slice without room
          simp only [Option.some.injEq, Prod.mk.injEq] at h
          obtain ⟨rfl, rfl, rfl⟩ := h
          first | replace hq := of_decide_eq_true hq | skip
          obtain ⟨q1, q2, q3, q4⟩ := hq
          obtain ⟨news, s1, s2, s3, s4⟩ := src q1
          have hln := s2.length
          rw [flat_length s3] at hln
          by_cases hm0 : es'.length = 0
          · have hes : es = [] := List.isEmpty_iff.1 (q2.resolve_right (by omega))
            subst hes
            have hnil : es' = [] := List.eq_nil_of_length_eq_zero hm0
            subst hnil
            have hnews : news = [] := List.eq_nil_of_length_eq_zero (by simpa using hln.symm)
            subst hnews
            obtain ⟨c1, c2, c3⟩ := hC.ownFull 0
            cases hS with
            | @sliceRow _ _ _ _ b off cap vs hr hse hcA h1 hnc hm ht =>
              simp only [AL.tagRow, List.length_nil] at ht
              refine ⟨_, w, _, run_append_same g1 g2 _ _ _ hnc s1 g3 ty, ?_, c1, c2⟩
              simp only [List.append_nil]
              have hv : vs = [] := List.eq_nil_of_length_eq_zero (by have := hr.length; simpa [flat] using this.symm)
              subst hv
              exact .sliceRow (RepL.mono c3.weak hr) (fun _ h => by cases h) (fun j v hj => by simp at hj) h1 hnc hm (by simp [AL.tagRow, Own.isRow, ht])
            | sliceNil ht ho =>
              refine ⟨_, w, _, run_append_same g1 g2 _ _ _ (Nat.le_refl _) s1 g3 ty, ?_, c1, c2⟩
              exact .sliceNil (by simp [AL.tagNil, Own.isNil]) (ho.imp_right fun _ => rfl)
          · cases hS with
            | @sliceRow _ _ _ _ b off cap vs hr hse hcA h1 hnc hm ht =>
              simp only [AL.tagRow] at ht
              subst ht
              have hsn : s0 = n := by
                rcases hs0 with h2 | h2
                · exact h2
                · simp [Tag.isNil] at h2
              subst hsn
              have hlv := hr.length
              rw [flat_length hse] at hlv
              exact append_grow (σ' := st.σ.pushOwn (es.length + es'.length)) (p := st.σ.nown) hC g1 g2 g3 g4 g5 hz hn (run_firstCells_row hcA hlv.symm) hr hse h1 s1 s2 s3 s4 (by omega) q4 q3 (fun b c => by rw [hC.inv.freshW _ (Nat.le_refl _)]; trivial) rfl rfl rfl (by simp [Sto.pushOwn]) (by simp [Sto.pushOwn]) ty
            | @sliceNil _ _ _ oo ht ho =>
              exact append_grow (σ' := st.σ.pushOwn (([] : List AVal).length + es'.length)) (es := []) (olds := []) (p := st.σ.nown) hC g1 g2 g3 g4 g5 hz hn (run_firstCells_zero w.drew n 0 0 oo) (.nil _) (fun _ h => by cases h) (fun _ h => by cases h) s1 s2 s3 s4 (by simp; omega)
                q4 q3 (fun b c => by rw [hC.inv.freshW _ (Nat.le_refl _)]; trivial) rfl rfl rfl (by simp [Sto.pushOwn]) (by simp [Sto.pushOwn]) ty
      · cases h
    · cases h
  · cases h

end
end Go.AL
