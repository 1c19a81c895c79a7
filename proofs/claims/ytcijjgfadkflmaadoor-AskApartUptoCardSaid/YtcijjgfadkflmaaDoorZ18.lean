/-
  The texts Wz, Wc of this seat, one behind the other.
-/
import Derived.Test.YtcijjgfadkflmaaDoorZ17
import Derived.Test.YtcijjgfadkflmaaDoorRows

section
set_option linter.unusedSimpArgs false
set_option linter.unusedVariables false
set_option linter.unusedSectionVars false
namespace Go.ALB
open Go.AL Go.ChangeShapes Go.WideShapes Go.RowKit
open Go.Proofs.YtcijjgfadkflmaaDoor.Rows (uptoBulk uptoBulkAll)
theorem bulk_mem {H : Type} {d : DataW H} : ∀ {ds : List (DataW H)}, d ∈ ds → uptoBulk d ≤ uptoBulkAll ds
  | x :: r, h => by
    simp only [uptoBulkAll]
    rcases List.mem_cons.1 h with rfl | h
    · omega
    · have := bulk_mem h; omega
mutual
def Fits : Ty → AVal → Prop
  | .bool, a => ∃ b, a = .bool b
  | .int k, a => ∃ n, a = .int k n ∧ k.min ≤ n ∧ n ≤ k.max
  | .str, a => ∃ s, a = .str s ∧ s.length ≤ 1048576
  | .slice y w b, a => ∃ es, a = .slice es w .ro ∧ es.length * b ≤ 140737488351232 ∧ ∀ x ∈ es, Fits y x
  | .agg ys, a => ∃ cs, a = .agg cs ∧ FitsL ys cs
def FitsL : List Ty → List AVal → Prop
  | [], az => az = []
  | y :: ys, az => ∃ a r, az = a :: r ∧ Fits y a ∧ FitsL ys r
end

theorem FitsL.length : ∀ {ys : List Ty} {az : List AVal}, FitsL ys az → az.length = ys.length
  | [], _, h => by simp only [FitsL] at h; subst h; rfl
  | y :: ys, _, h => by
    simp only [FitsL] at h
    obtain ⟨a, r, rfl, _, h2⟩ := h
    simp [FitsL.length h2]

theorem FitsL.append : ∀ {ys zs : List Ty} {az bs : List AVal}, FitsL ys az → FitsL zs bs → FitsL (ys ++ zs) (az ++ bs)
  | [], _, _, _, h, k => by simp only [FitsL] at h; subst h; exact k
  | y :: ys, zs, _, bs, h, k => by
    simp only [FitsL] at h
    obtain ⟨a, r, rfl, h1, h2⟩ := h
    simp only [List.cons_append, FitsL]
    exact ⟨a, r ++ bs, rfl, h1, FitsL.append h2 k⟩

def elemOf : Ty → List AVal → AVal
  | .agg _, az => .agg az
  | _, az => az.getD 0 .undef

theorem elemOf_spec {y : Ty} {az : List AVal} (h : FitsL y.cells az) : Fits y (elemOf y az) ∧ ((∀ a ∈ az, ∀ cs, a ≠ .agg cs) → (elemOf y az).cells = az) := by
  cases y with
  | agg ys => exact ⟨⟨az, rfl, h⟩, fun _ => rfl⟩
  | _ =>
    simp only [Ty.cells, FitsL] at h
    obtain ⟨a, r, rfl, h1, rfl⟩ := h
    refine ⟨h1, fun hn => ?_⟩
    have hn := hn a (by simp)
    simp only [elemOf, List.getD_cons_zero]
    cases a <;> first | rfl | exact absurd rfl (hn _)

theorem one_noAgg {γ : Gh} {w : World} {l : Bool} : ∀ {az : List AVal} {vs : List Value}, RepL γ w l az vs → (∀ v ∈ vs, v.oneCell' = true) → ∀ a ∈ az, ∀ cs, a ≠ .agg cs
  | _, _, .nil _, _, _, ha, _ => by cases ha
  | _, _, .cons h t, h1, a, ha, cs => by
    rcases List.mem_cons.1 ha with rfl | ha
    · rintro rfl
      rename_i v0 _ _
      have := h1 v0 (by simp)
      cases h
      cases this
    · exact one_noAgg t (fun v hv => h1 v (by simp [hv])) a ha cs

theorem choose_list {α : Type} [Inhabited α] (n : Nat) {p : Nat → α → Prop} (h : ∀ i, i < n → ∃ x, p i x) : ∃ l : List α, l.length = n ∧ ∀ i x, l[i]? = some x → p i x := by
  induction n with
  | zero => exact ⟨[], rfl, fun i x hx => by simp at hx⟩
  | succ n ih =>
    obtain ⟨l, h1, h2⟩ := ih (fun i hi => h i (by omega))
    obtain ⟨x, hx⟩ := h n (by omega)
    refine ⟨l ++ [x], by simp [h1], fun i y hy => ?_⟩
    by_cases hi : i < l.length
    · exact h2 i y (by rwa [List.getElem?_append_left hi] at hy)
    · rw [List.getElem?_append_right (by omega)] at hy
      have e : i - l.length = 0 := by
        rcases Nat.eq_zero_or_pos (i - l.length) with e | e
        · exact e
        · rw [List.getElem?_eq_none (by simp; omega)] at hy; cases hy
      rw [e] at hy
      simp at hy
      subst hy
      rwa [show i = n by omega]

section
variable {H : Type} {enc : TypeId × Value → H} {P : Program} {W : World}

def Opens (P : Program) (W : World) (ys : List Ty) (cs : List Value) : Prop :=
  ∃ az, FitsL ys az ∧ RepL (Gh.top W) W false az cs ∧ ∀ v ∈ cs, v.oneCell' = true

theorem Opens.append {ys zs : List Ty} {cs ds : List Value} (h : Opens P W ys cs) (k : Opens P W zs ds) : Opens P W (ys ++ zs) (cs ++ ds) := by
  obtain ⟨az, h1, h2, h3⟩ := h
  obtain ⟨bs, k1, k2, k3⟩ := k
  exact ⟨az ++ bs, h1.append k1, RepL.append k2 h2, fun v hv => (List.mem_append.1 hv).elim (h3 v) (k3 v)⟩

theorem Opens.length {ys : List Ty} {cs : List Value} (h : Opens P W ys cs) : cs.length = ys.length := by
  obtain ⟨az, h1, h2, _⟩ := h
  rw [← h2.length, h1.length]

theorem Opens.nil : Opens P W [] [] := ⟨[], rfl, .nil _, fun _ h => by cases h⟩

theorem open_fields {r : TypeId → Option Ty} {cs : List Value} : ∀ {fs : List Field} {i : Nat} {ys : List Ty}, tyFs P r i fs = some ys →
    (∀ f ∈ fs, ∀ y, r f.type = some y → Opens P W y.cells ((cs.drop f.offset).take (P.cellsOf f.type))) → Opens P W ys ((cs.drop i).take ys.length)
  | [], i, ys, h, _ => by
    simp only [tyFs, Option.some.injEq] at h
    subst h
    simpa using Opens.nil
  | f :: fs, i, ys, h, hf => by
    simp only [tyFs] at h
    split at h
    · cases h
    · rename_i ho
      have ho : f.offset = i := Classical.byContradiction ho
      split at h
      · rename_i y hy
        split at h
        · rename_i hc
          split at h
          · rename_i ys' hys
            simp only [Option.some.injEq] at h
            subst h
            have h1 := hf f (by simp) y hy
            rw [ho, hc] at h1
            have h2 := open_fields hys (fun g hg => hf g (by simp [hg]))
            have := h1.append h2
            rw [List.length_append, List.take_add]
            rwa [← List.drop_drop] at this
          · cases h
        · cases h
      · cases h

theorem open_row {y : Ty} {n : Nat} {cs : List Value} : ∀ (m i : Nat), n = y.cells.length → (∀ j, j < i + m → Opens P W y.cells ((cs.drop (j * n)).take n)) → Opens P W (List.replicate m y.cells).flatten ((cs.drop (i * n)).take (m * n))
  | 0, i, hn, h => by simpa using Opens.nil
  | m + 1, i, hn, h => by
    have h1 := h i (by omega)
    have h2 := open_row m (i + 1) hn (fun j hj => h j (by omega))
    have := h1.append h2
    rw [List.replicate_succ, List.flatten_cons, Nat.succ_mul, Nat.add_comm (m * n) n, List.take_add]
    rwa [Nat.succ_mul, ← List.drop_drop] at this

theorem addr_spot {a : Addr} {k : Nat} {v : Value} (h : W.cell? (a.add k) = some v) : a.add k = ⟨a.block, a.off + k, none⟩ ∧ (k = 0 → a.spot = none) := by
  have hspot : (a.add k).spot = none := by
    cases hsp : (a.add k).spot with
    | none => rfl
    | some s =>
      simp only [World.cell?] at h
      split at h
      · simp [hsp] at h
      · cases h
  unfold Addr.add at hspot ⊢
  split
  · rename_i h0
    subst h0
    rw [if_pos rfl] at hspot
    cases a
    simp_all
  · rename_i h0
    exact ⟨rfl, fun e => absurd e h0⟩

theorem weightsAll_mem {e : TypeId} {d : DataW H} : ∀ {ds : List (DataW H)}, d ∈ ds → ∀ m ∈ d.weights P e, m ∈ DataW.weightsAll P e ds
  | x :: r, hd, m, hm => by
    simp only [DataW.weightsAll, List.mem_append]
    rcases List.mem_cons.1 hd with rfl | hd
    · exact .inl hm
    · exact .inr (weightsAll_mem hd m hm)


theorem open_cells : ∀ (n : Nat) {t : TypeId} {y : Ty}, tyOf P n t = some y → ∀ {fuel : Nat} {cs : List Value} {x : DataW H × List MemPlace}, DataW.trod enc P W 0 (fun _ => true) true fuel t cs = some x →
    (∀ m ∈ x.1.weights P t, m ≤ reachBytes) → uptoBulk x.1 ≤ 1048576 → Opens P W y.cells cs := by
  intro n
  induction n with
  | zero => intro t y h; cases h
  | succ n ih =>
    intro t y h fuel cs x hx hw hbk
    simp only [tyOf] at h
    split at h
    · rename_i hu
      cases h
      obtain ⟨b, rfl, rfl⟩ := DataW.trod_bool hu hx
      exact ⟨[.bool b], ⟨_, _, rfl, ⟨b, rfl⟩, rfl⟩, .cons (.bool _ _) (.nil _), by simp [Value.oneCell']⟩
    · rename_i k hu
      cases h
      obtain ⟨m, rfl, rfl, hwf⟩ := DataW.trod_int hu hx
      have hwf : k.min ≤ m ∧ m ≤ k.max := by simpa [Lit.wf] using hwf
      exact ⟨[.int k m], ⟨_, _, rfl, ⟨m, rfl, hwf⟩, rfl⟩, .cons (.int _ _ _) (.nil _), by simp [Value.oneCell']⟩
    · rename_i hu
      cases h
      obtain ⟨s, rfl, rfl, hwf⟩ := DataW.trod_string hu hx
      have hs : s.data.toList.length ≤ 1048576 := by
        have hbk : s.data.toList.length + 1 ≤ 1048576 := by simpa only [uptoBulk] using hbk
        omega
      refine ⟨[.str s.data.toList], ⟨_, _, rfl, ⟨_, rfl, hs⟩, rfl⟩, .cons ?_ (.nil _), by simp [Value.oneCell']⟩
      have : (Value.string s) = .string ⟨s.data.toList.toArray⟩ := by simp
      rw [this]
      exact .str _ _
    · rename_i e hu
      split at h
      · rename_i y' hy
        split at h
        · rename_i hc
          cases h
          obtain ⟨hc, hpos⟩ := hc
          rcases DataW.trod_slice hu hx with ⟨rfl, rfl⟩ | ⟨a, len, cap, elems, rest, m, rfl, rfl, rfl, _, hlc, hmx, hlen, hel, hsp, _⟩
          · exact ⟨[.slice [] (P.cellsOf e) .ro], ⟨_, _, rfl, ⟨[], rfl, by simp, by simp⟩, rfl⟩, .cons (.sliceNil trivial (.inl rfl)) (.nil _), by simp [Value.oneCell']⟩
          · obtain ⟨hrl, hrest⟩ := hsp rfl
            have hwt : ∀ (i : Nat) (z : DataW H × List MemPlace), elems[i]? = some z → ∀ q ∈ z.1.weights P e, q ≤ reachBytes := fun i z hz q hq => hw q (by
              simp only [DataW.weights, hu, List.mem_cons, List.mem_append]
              exact .inr (.inl (weightsAll_mem (List.mem_map.2 ⟨z, List.mem_of_getElem? hz, rfl⟩) q hq)))
            have hbt : ∀ (i : Nat) (z : DataW H × List MemPlace), elems[i]? = some z → uptoBulk z.1 ≤ 1048576 := fun i z hz => by
              have h1 := bulk_mem (List.mem_map.2 ⟨z, List.mem_of_getElem? hz, rfl⟩ : z.1 ∈ elems.map (·.1))
              have hbk : uptoBulkAll (elems.map (·.1)) + uptoBulkAll (rest.map (·.1)) + 1 ≤ 1048576 := by simpa only [uptoBulk] using hbk
              omega
            have hbytes : len * P.bytesOf e ≤ 140737488351232 := by
              have := hw ((elems.map (·.1)).length * P.bytesOf e + (rest.map (·.1)).length * P.bytesOf e) (by simp [DataW.weights, hu, Nat.add_mul])
              rw [reach_eq] at this
              simp only [List.length_map, hlen] at this
              omega
            have each : ∀ i, i < len → ∃ z : List AVal × List Value, FitsL y'.cells z.1 ∧ RepL (Gh.top W) W false z.1 z.2 ∧ (∀ v ∈ z.2, v.oneCell' = true) ∧ z.2.length = P.cellsOf e ∧ ∀ j, j < P.cellsOf e → W.cell? ((a.add (i * P.cellsOf e)).add j) = z.2[j]? := by
              intro i hi
              have := hel i hi
              have hi' : i < elems.length := by omega
              rw [List.getElem?_eq_getElem hi', Option.bind_eq_some_iff] at this
              obtain ⟨cs', h1, h2⟩ := this
              obtain ⟨_, h3, h4⟩ := World.cells?_some h1
              obtain ⟨az, g1, g2, g3⟩ := ih hy h2 (hwt i _ (List.getElem?_eq_getElem hi')) (hbt i _ (List.getElem?_eq_getElem hi'))
              exact ⟨(az, cs'), g1, g2, g3, h3, h4⟩
            obtain ⟨l, hl, hp⟩ := choose_list len each
            by_cases hcap : cap = 0
            · have hl0 : len = 0 := by omega
              subst hcap; subst hl0
              exact ⟨[.slice [] (P.cellsOf e) .ro], ⟨_, _, rfl, ⟨[], rfl, by simp, by simp⟩, rfl⟩, .cons (.sliceNil trivial (.inr rfl)) (.nil _), by simp [Value.oneCell']⟩
            · have hspot : a.spot = none := by
                have key : ∀ v, W.cell? ((a.add 0).add 0) = some v → a.spot = none := fun v hv => by
                  have e0 : (a.add 0) = a := by unfold Addr.add; rw [if_pos rfl]
                  rw [e0] at hv
                  exact (addr_spot hv).2 rfl
                by_cases hl0 : 0 < len
                · obtain ⟨z, hz⟩ : ∃ z, l[0]? = some z := ⟨l[0], by simp [hl, hl0]⟩
                  obtain ⟨_, _, _, q4, q5⟩ := hp 0 z hz
                  have := q5 0 hpos
                  rw [Nat.zero_mul, List.getElem?_eq_getElem (by omega)] at this
                  exact key _ this
                · have := hrest 0 (by omega)
                  rw [show len + 0 = 0 by omega, Nat.zero_mul, List.getElem?_eq_getElem (by omega), Option.bind_eq_some_iff] at this
                  obtain ⟨cs', h1, _⟩ := this
                  obtain ⟨_, h3, h4⟩ := World.cells?_some h1
                  have := h4 0 hpos
                  rw [List.getElem?_eq_getElem (by omega)] at this
                  exact key _ this
              obtain ⟨b, off, sp⟩ := a
              simp only at hspot
              subst hspot
              have hcell : ∀ i z, l[i]? = some z → ∀ j v, z.2[j]? = some v → W.cell? ⟨b, off + i * P.cellsOf e + j, none⟩ = some v := by
                intro i z hz j v hv
                obtain ⟨_, _, _, q4, q5⟩ := hp i z hz
                have hj : j < P.cellsOf e := by
                  rcases Nat.lt_or_ge j z.2.length with h | h
                  · omega
                  · rw [List.getElem?_eq_none h] at hv; cases hv
                have := q5 j hj
                rw [hv, addr_add, addr_add] at this
                exact this
              have hflat : flat (l.map fun z => elemOf y' z.1) = l.flatMap (·.1) := by
                have : ∀ z ∈ l, (elemOf y' z.1).cells = z.1 := fun z hz => by
                  obtain ⟨i, hi⟩ := List.getElem?_of_mem hz
                  obtain ⟨q1, q2, q3, _⟩ := hp i z hi
                  exact (elemOf_spec q1).2 (one_noAgg q2 q3)
                clear hcell hp hl each
                induction l with
                | nil => rfl
                | cons z l ih2 =>
                  simp only [flat, List.map_cons, List.flatMap_cons] at ih2 ⊢
                  rw [this z (by simp), ih2 (fun z' hz' => this z' (by simp [hz']))]
              have hrep : RepL (Gh.top W) W false (l.flatMap (·.1)) (l.flatMap (·.2)) ∧ ∀ v ∈ l.flatMap (·.2), v.oneCell' = true := by
                have : ∀ z ∈ l, RepL (Gh.top W) W false z.1 z.2 ∧ ∀ v ∈ z.2, v.oneCell' = true := fun z hz => by
                  obtain ⟨i, hi⟩ := List.getElem?_of_mem hz
                  obtain ⟨_, q2, q3, _⟩ := hp i z hi
                  exact ⟨q2, q3⟩
                clear hcell hp hl each hflat
                induction l with
                | nil => exact ⟨.nil _, fun v hv => by simp at hv⟩
                | cons z l ih2 =>
                  obtain ⟨g1, g2⟩ := ih2 (fun z' hz' => this z' (by simp [hz']))
                  obtain ⟨g3, g4⟩ := this z (by simp)
                  simp only [List.flatMap_cons]
                  exact ⟨RepL.append g1 g3, fun v hv => (List.mem_append.1 hv).elim (g4 v) (g2 v)⟩
              have hcells : AL.cellsAt (Gh.top W) W b off (l.flatMap (·.2)) := by
                have gen : ∀ (l' : List (List AVal × List Value)) (i0 : Nat), (∀ i z, l'[i]? = some z → z.2.length = P.cellsOf e ∧ ∀ j v, z.2[j]? = some v → W.cell? ⟨b, off + (i0 + i) * P.cellsOf e + j, none⟩ = some v) → AL.cellsAt (Gh.top W) W b (off + i0 * P.cellsOf e) (l'.flatMap (·.2)) := by
                  intro l'
                  induction l' with
                  | nil => intro i0 _ j v hj; simp at hj
                  | cons z l' ih2 =>
                    intro i0 hz
                    simp only [List.flatMap_cons]
                    obtain ⟨z1, z2⟩ := hz 0 z rfl
                    refine cellsAt.append (fun j v hj => ?_) ?_
                    · have := z2 j v hj
                      rw [Nat.add_zero] at this
                      exact ⟨World.block_lt_of_cell? W _ this, this⟩
                    · rw [z1]
                      have := ih2 (i0 + 1) (fun i z' hz' => by
                        have := hz (i + 1) z' (by simpa using hz')
                        rwa [show i0 + 1 + i = i0 + (i + 1) by omega])
                      rwa [show off + i0 * P.cellsOf e + P.cellsOf e = off + (i0 + 1) * P.cellsOf e by rw [Nat.succ_mul]; omega]
                have := gen l 0 (fun i z hz => ⟨(hp i z hz).2.2.2.1, fun j v hj => by
                  have := hcell i z hz j v hj
                  rwa [Nat.zero_add]⟩)
                simpa using this
              have hln : (l.map fun z => elemOf y' z.1).length = len := by simp [hl]
              have hs : ∀ x ∈ l.map fun z => elemOf y' z.1, x.cells.length = P.cellsOf e := fun x hx => by
                obtain ⟨z, hz, rfl⟩ := List.mem_map.1 hx
                obtain ⟨i, hi⟩ := List.getElem?_of_mem hz
                obtain ⟨q1, q2, q3, q4, _⟩ := hp i z hi
                rw [(elemOf_spec q1).2 (one_noAgg q2 q3), q2.length, q4]
              have key : Rep (Gh.top W) W false (.slice (l.map fun z => elemOf y' z.1) (P.cellsOf e) .ro) (.slice (some ⟨b, off, none⟩) (l.map fun z => elemOf y' z.1).length cap) :=
                .sliceRow (by rw [hflat]; exact hrep.1) hs hcells hrep.2 (by omega) hmx trivial
              rw [hln] at key
              refine ⟨[.slice (l.map fun z => elemOf y' z.1) (P.cellsOf e) .ro], ⟨_, _, rfl, ⟨_, rfl, by rw [hln]; exact hbytes, fun x hx => ?_⟩, rfl⟩, .cons key (.nil _), by simp [Value.oneCell']⟩
              obtain ⟨z, hz, rfl⟩ := List.mem_map.1 hx
              obtain ⟨i, hi⟩ := List.getElem?_of_mem hz
              exact (elemOf_spec (hp i z hi).1).1
        · cases h
      · cases h
    · rename_i fs hu
      split at h
      · rename_i ys hys
        split at h
        · rename_i hc
          cases h
          obtain ⟨xs, m, rfl, rfl, hl, hxl, hxs⟩ := DataW.trod_struct hu hx
          have := open_fields (P := P) (W := W) (cs := cs) hys (fun f hf y hy => by
            obtain ⟨i, hi⟩ := List.getElem?_of_mem hf
            have hi' : fs[i]? = some f := by simpa using hi
            have hlt : i < xs.length := by
              rw [hxl]
              exact (Array.getElem?_eq_some_iff.1 hi').1
            have h1 := hxs i f hi'
            rw [List.getElem?_eq_getElem hlt] at h1
            refine ih hy h1 (fun q hq => hw q ?_) (by
              have h1 := bulk_mem (List.mem_map.2 ⟨xs[i], List.getElem_mem hlt, rfl⟩ : xs[i].1 ∈ xs.map (·.1))
              have hbk : uptoBulkAll (xs.map (·.1)) + 1 ≤ 1048576 := by simpa only [uptoBulk] using hbk
              omega)
            simp only [DataW.weights, hu]
            exact DataW.weights_mem_each (j := i) (t := f.type) (d := xs[i].1) (by simp [hi]) (by simp [hlt]) q hq)
          have e : cs.take ys.length = cs := List.take_of_length_le (by omega)
          simpa [Ty.cells, e] using this
        · cases h
      · cases h
    · rename_i m e hu
      split at h
      · rename_i y' hy
        split at h
        · rename_i hc
          cases h
          obtain ⟨xs, q, rfl, rfl, hl, hxl, hxs⟩ := DataW.trod_array hu hx
          have := open_row (P := P) (W := W) (y := y') (n := P.cellsOf e) (cs := cs) m 0 hc.1 (fun j hj => by
            have hlt : j < xs.length := by omega
            have h1 := hxs j (by omega)
            rw [List.getElem?_eq_getElem hlt] at h1
            refine ih hy h1 (fun q hq => hw q ?_) (by
              have h1 := bulk_mem (List.mem_map.2 ⟨xs[j], List.getElem_mem hlt, rfl⟩ : xs[j].1 ∈ xs.map (·.1))
              have hbk : uptoBulkAll (xs.map (·.1)) + 1 ≤ 1048576 := by simpa only [uptoBulk] using hbk
              omega)
            simp only [DataW.weights, hu]
            exact weightsAll_mem (List.mem_map.2 ⟨xs[j], List.getElem_mem hlt, rfl⟩) q hq)
          have e2 : cs.take (m * P.cellsOf e) = cs := List.take_of_length_le (by rw [hl, hc.2, hc.1]; exact Nat.le_refl _)
          simpa [Ty.cells, e2] using this
        · cases h
      · cases h
    · cases h

theorem open_value {n : Nat} {t : TypeId} {y : Ty} (ht : tyOf P n t = some y) {r : Go.Reach} {b0 : Nat} {v : Value} {d : DataW H} {ps : List MemPlace} (hval : Value.okWide P W r b0 t v) (h : DataW.Trod enc P W 0 (fun _ => true) true t v d ps)
    (hw : ∀ m ∈ d.weights P t, m ≤ reachBytes) (hbk : uptoBulk d ≤ 1048576) : ∃ a, Fits y a ∧ Rep (Gh.top W) W false a v := by
  obtain ⟨fuel, h⟩ := h
  obtain ⟨az, h1, h2, h3⟩ := open_cells n ht h hw hbk
  have plain : (∀ cs, v ≠ .agg cs) → y.cells = [y] → ∃ a, Fits y a ∧ Rep (Gh.top W) W false a v := fun hv hy => by
    have hc : v.cells.toList = [v] := by cases v <;> first | rfl | exact absurd rfl (hv _)
    rw [hc] at h2
    rw [hy] at h1
    simp only [FitsL] at h1
    obtain ⟨a, r, rfl, h1, rfl⟩ := h1
    cases h2 with
    | cons h _ => exact ⟨a, h1, h⟩
  have whole : (∃ cs, v = .agg cs) → (∃ ys, y = .agg ys) → ∃ a, Fits y a ∧ Rep (Gh.top W) W false a v := by
    rintro ⟨cs, rfl⟩ ⟨ys, rfl⟩
    refine ⟨.agg az, ⟨az, rfl, h1⟩, ?_⟩
    have := Rep.agg (γ := Gh.top W) (w := W) (l := false) (cs := az) (vs := cs.toList) (by simpa [Value.cells] using h2) (by simpa [Value.cells] using h3)
    simpa using this
  cases n with
  | zero => cases ht
  | succ n =>
    simp only [tyOf] at ht
    split at ht
    · rename_i hu
      cases ht
      exact plain (fun cs e => by subst e; simp [Value.okWide, Cell.okWide, Cell.ok, hu] at hval) rfl
    · rename_i hu
      cases ht
      exact plain (fun cs e => by subst e; simp [Value.okWide, Cell.okWide, Cell.ok, hu] at hval) rfl
    · rename_i hu
      cases ht
      exact plain (fun cs e => by subst e; simp [Value.okWide, Cell.okWide, Cell.ok, hu] at hval) rfl
    · rename_i hu
      split at ht
      · split at ht
        · cases ht
          exact plain (fun cs e => by subst e; simp [Value.okWide, Cell.okWide, Cell.ok, hu] at hval) rfl
        · cases ht
      · cases ht
    · rename_i hu
      split at ht
      · split at ht
        · cases ht
          simp only [Value.okWide, hu] at hval
          obtain ⟨cs, rfl, _⟩ := hval
          exact whole ⟨_, rfl⟩ ⟨_, rfl⟩
        · cases ht
      · cases ht
    · rename_i hu
      split at ht
      · split at ht
        · cases ht
          simp only [Value.okWide, hu] at hval
          obtain ⟨cs, rfl, _⟩ := hval
          exact whole ⟨_, rfl⟩ ⟨_, rfl⟩
        · cases ht
      · cases ht
    · cases ht

theorem open_args {r : Go.Reach} {b0 : Nat} : ∀ {ts : List TypeId} {ys : List Ty} {vs : List Value} {ds : List (DataW H)} {ps : List MemPlace}, tysOf P ts = some ys → (∀ (j : Nat) t v, ts[j]? = some t → vs[j]? = some v → Value.okWide P W r b0 t v) →
    DataW.TrodAll enc P W 0 (fun _ => true) true ts vs ds ps → (∀ m ∈ DataW.weightsEach P ts ds, m ≤ reachBytes) → uptoBulkAll ds ≤ 1048576 → ∃ az, FitsL ys az ∧ RepL (Gh.top W) W false az vs
  | [], ys, [], [], _, h, _, _, _, _ => by
    simp only [tysOf, Option.some.injEq] at h
    subst h
    exact ⟨[], rfl, .nil _⟩
  | t :: ts, ys, v :: vs, d :: ds, _, h, hval, ⟨p, q, h1, h2, _⟩, hw, hbk => by
    simp only [uptoBulkAll] at hbk
    simp only [tysOf] at h
    split at h
    · rename_i y ys' hy hys
      cases h
      obtain ⟨a, g1, g2⟩ := open_value hy (hval 0 t v rfl rfl) h1 (fun m hm => hw m (by simp [DataW.weightsEach, hm])) (by omega)
      obtain ⟨az, g3, g4⟩ := open_args hys (fun j t v ht hv => hval (j + 1) t v (by simpa using ht) (by simpa using hv)) h2 (fun m hm => hw m (by simp [DataW.weightsEach, hm])) (by omega)
      exact ⟨a :: az, ⟨a, az, rfl, g1, g3⟩, .cons g2 g4⟩
    · cases h

end
theorem law_postB {H : Type} {enc : TypeId × Value → H} {P : Program} {f : FuncId} {fn : Func} {s : ChangeSpec} {apart fresh handsOn again : Bool} (hs : IsLaw s fn.params.size) {tb : TypeId} (hres : fn.resultTypes = #[tb]) (hb : P.underlying tb = some .bool)
    {ys : List Ty} (hty : tysOf P fn.params.toList = some ys) (hlaw : ∀ az, FitsL ys az → ACall P f az Sto.empty fun r _ => r = .bool true)
    {W : World} {r : Go.Reach} {base : Nat} {args : Array Value} {ds gs : List (DataW H)} {before : List MemPlace}
    (hval : ∀ (j : Nat) t v, fn.params[j]? = some t → args[j]? = some v → Value.okWide P W r base t v)
    (hW : DataW.Whole enc P fn.params.toList s.vars apart W args.toList ds gs before)
    (hw : (DataW.weightsEach P (fn.params.toList ++ s.plain.varTypes P) (ds ++ gs)).all (· ≤ reachBytes) = true) (hbk : uptoBulkAll (ds ++ gs) ≤ 1048576) (hA : Known W) :
    Calls P f args W fun e W' => ∃ v, e = .returned v ∧ s.post enc P fn apart fresh handsOn again W args v W' := by
  have hA0 := hA
  have hW' := hW
  obtain ⟨p, q, hA, hV, rfl, _, _⟩ := hW
  rw [hs.vars] at hV
  have hgs : gs = [] ∧ q = [] := by
    cases gs with
    | nil => exact ⟨rfl, hV⟩
    | cons _ _ => exact hV.elim
  obtain ⟨rfl, rfl⟩ := hgs
  have hdl : ds.length = fn.params.size := by
    have key : ∀ (ts : List TypeId) (vs : List Value) (ds : List (DataW H)) (ps : List MemPlace), DataW.TrodAll enc P W 0 (fun _ => true) true ts vs ds ps → ds.length = ts.length := by
      intro ts
      induction ts with
      | nil => intro vs ds ps h; cases vs <;> cases ds <;> first | rfl | exact h.elim
      | cons t ts ih =>
        intro vs ds ps h
        cases vs with
        | nil => cases ds <;> exact h.elim
        | cons v vs =>
          cases ds with
          | nil => exact h.elim
          | cons d ds =>
            obtain ⟨p, q, _, h2, _⟩ := h
            simp [ih vs ds q h2]
    have := key _ _ _ _ hA
    simpa using this
  have hw' : ∀ m ∈ DataW.weightsEach P fn.params.toList ds, m ≤ reachBytes := fun m hm => by
    have hvt : s.plain.varTypes P = [] := by
      have : s.plain.vars = [] := hs.vars
      simp [WideSpec.plain, DataSpec.varTypes, ChangeSpec.plain, hs.vars]
    rw [hvt] at hw
    simp only [List.append_nil, List.all_eq_true, decide_eq_true_eq] at hw
    exact hw m hm
  obtain ⟨az, h1, h2⟩ := open_args hty (fun j t v ht hv => hval j t v (by simpa using ht) (by simpa using hv)) hA hw' (by simpa using hbk)
  have hcall := (hlaw az h1).top hA0 h2
  simp only [Array.toArray_toList] at hcall
  refine hcall.mono fun e W' ⟨v, a, γ', σ', he, hr, ha, hbl⟩ => ?_
  subst ha
  cases hr
  refine ⟨_, he, ?_⟩
  obtain ⟨g1, g2, g3⟩ := hs.fn H (ds ++ []) (by simpa using hdl)
  refine post_below (pa := p) (pv := []) hW' (fun b sp hd => ?_) (fun sp hsp => ?_) (fun sp hsp => ?_) rfl hbl ?_
  · rw [g1, hres]
    exact trodAll_cons_mk (shut_bool hb true) trodAll_mk0
  · rw [g2, List.append_nil]
    exact carry_all hbl hty hA (fun p hp => hsp p (by simp [hp]))
  · rw [g3, hs.vars]
    rfl
  · exact ok_one hres rfl (okWide_bool_mk hb _)

end Go.ALB
end

section
namespace Go.Proofs.YtcijjgfadkflmaaDoor
open Go.AL
set_option linter.unusedSimpArgs false
set_option linter.unusedVariables false
set_option maxHeartbeats 1000000
set_option maxRecDepth 20000
theorem i64b {n : Int} (h : IntKind.i64.min ≤ n ∧ n ≤ IntKind.i64.max) : -9223372036854775808 ≤ n ∧ n ≤ 9223372036854775807 := by
  have h1 : IntKind.i64.min = -9223372036854775808 := by decide
  have h2 : IntKind.i64.max = 9223372036854775807 := by decide
  rw [h1, h2] at h
  exact h
theorem list_of {α : Type} {f : α → AVal} {C : α → Prop} : ∀ {es : List AVal}, (∀ x ∈ es, ∃ p, x = f p ∧ C p) → ∃ l : List α, es = l.map f ∧ ∀ p ∈ l, C p
  | [], _ => ⟨[], rfl, fun p h => by cases h⟩
  | x :: es, h => by
    obtain ⟨p, e, c⟩ := h x (List.mem_cons_self ..)
    obtain ⟨l, hl, hc⟩ := list_of (es := es) fun y hy => h y (List.mem_cons_of_mem _ hy)
    refine ⟨p :: l, by rw [e, hl]; rfl, fun q hq => ?_⟩
    rcases List.mem_cons.1 hq with rfl | hq
    · exact c
    · exact hc q hq
theorem fit_pr {x : AVal} (h : Go.ALB.Fits (.agg [.str, .int .i64, .int .i64, .str]) x) : ∃ p : Pr, x = Pr.a p ∧ -9223372036854775808 ≤ p.v.n ∧ p.v.n ≤ 9223372036854775807 := by
  simp only [Go.ALB.Fits, Go.ALB.FitsL] at h
  obtain ⟨cs, rfl, a1, r1, rfl, ⟨s1, rfl, _⟩, a2, r2, rfl, ⟨n1, rfl, h1⟩, a3, r3, rfl, ⟨n2, rfl, h2⟩, a4, r4, rfl, ⟨s2, rfl, _⟩, rfl⟩ := h
  exact ⟨⟨s1, ⟨n1, n2, s2⟩⟩, rfl, i64b h2⟩
theorem fit_nd {x : AVal} (h : Go.ALB.Fits (.agg [.str, .str, .int .i64, .int .i64, .str, .int .i64, .int .i64, .str]) x) : ∃ p : Nd, x = Nd.a p ∧ (-9223372036854775808 ≤ p.lo.n ∧ p.lo.n ≤ 9223372036854775807) ∧ -9223372036854775808 ≤ p.hi.n ∧ p.hi.n ≤ 9223372036854775807 := by
  simp only [Go.ALB.Fits, Go.ALB.FitsL] at h
  obtain ⟨cs, rfl, a1, r1, rfl, ⟨s1, rfl, _⟩, a0, r0, rfl, ⟨s0, rfl, _⟩, a2, r2, rfl, ⟨n1, rfl, h1⟩, a3, r3, rfl, ⟨n2, rfl, h2⟩, a4, r4, rfl, ⟨s2, rfl, _⟩, a5, r5, rfl, ⟨n3, rfl, h3⟩, a6, r6, rfl, ⟨n4, rfl, h4⟩, a7, r7, rfl, ⟨s3, rfl, _⟩, rfl⟩ := h
  exact ⟨⟨s1, s0, ⟨n1, n2, s2⟩, ⟨n3, n4, s3⟩⟩, rfl, i64b h2, i64b h4⟩
theorem fit_lk {x : AVal} (h : Go.ALB.Fits (.agg [.int .i64, .int .i64, .str]) x) : ∃ p : Lk, x = Lk.a p ∧ (-9223372036854775808 ≤ p.fr ∧ p.fr ≤ 9223372036854775807) ∧ -9223372036854775808 ≤ p.tw ∧ p.tw ≤ 9223372036854775807 := by
  simp only [Go.ALB.Fits, Go.ALB.FitsL] at h
  obtain ⟨cs, rfl, a2, r2, rfl, ⟨n1, rfl, h1⟩, a3, r3, rfl, ⟨n2, rfl, h2⟩, a4, r4, rfl, ⟨s2, rfl, _⟩, rfl⟩ := h
  exact ⟨⟨n1, n2, s2⟩, rfl, i64b h1, i64b h2⟩
theorem fit_str {x : AVal} (h : Go.ALB.Fits .str x) : ∃ p : Txt, x = AVal.str p ∧ p.length ≤ 1048576 := by
  simp only [Go.ALB.Fits] at h
  exact h
abbrev askTy : Ty := .agg [.int .i64, .int .i64, .bool, .bool, .int .i64, .int .i64, .int .i64, .int .i64, .int .i64, .str, .str, .slice (.agg [.str, .int .i64, .int .i64, .str]) 4 48, .slice .str 1 16, .int .i64, .int .i64, .str, .int .i64, .int .i64, .str, .slice (.agg [.str, .str, .int .i64, .int .i64, .str, .int .i64, .int .i64, .str]) 8 96, .slice (.agg [.int .i64, .int .i64, .str]) 3 32]
theorem fit_ask {a : AVal} (h : Go.ALB.Fits askTy a) : ∃ x : Ak, a = Ak.a x ∧ x.op.fit ∧ ∀ k ∈ x.op.keys, k.length ≤ 2000000000000 := by
  unfold askTy at h
  rw [Go.ALB.Fits] at h
  obtain ⟨cs, rfl, h⟩ := h
  simp only [Go.ALB.FitsL] at h
  obtain ⟨a_verb, r_verb, rfl, f_verb, a_k, r_k, rfl, f_k, a_edge, r_edge, rfl, f_edge, a_out, r_out, rfl, f_out, a_id, r_id, rfl, f_id, a_fr, r_fr, rfl, f_fr, a_tw, r_tw, rfl, f_tw, a_mo, r_mo, rfl, f_mo, a_st, r_st, rfl, f_st, a_la, r_la, rfl, f_la, a_ke, r_ke, rfl, f_ke, a_ps, r_ps, rfl, f_ps, a_ks, r_ks, rfl, f_ks, a_lk, r_lk, rfl, f_lk, a_ln, r_ln, rfl, f_ln, a_ls, r_ls, rfl, f_ls, a_hk, r_hk, rfl, f_hk, a_hn, r_hn, rfl, f_hn, a_hs, r_hs, rfl, f_hs, a_ns, r_ns, rfl, f_ns, a_xs, r_xs, rfl, f_xs, rfl⟩ := h
  rw [Go.ALB.Fits] at f_verb
  obtain ⟨verb, rfl, i_verb⟩ := f_verb
  rw [Go.ALB.Fits] at f_k
  obtain ⟨k, rfl, i_k⟩ := f_k
  rw [Go.ALB.Fits] at f_edge
  obtain ⟨edge, rfl⟩ := f_edge
  rw [Go.ALB.Fits] at f_out
  obtain ⟨out, rfl⟩ := f_out
  rw [Go.ALB.Fits] at f_id
  obtain ⟨id, rfl, i_id⟩ := f_id
  rw [Go.ALB.Fits] at f_fr
  obtain ⟨fr, rfl, i_fr⟩ := f_fr
  rw [Go.ALB.Fits] at f_tw
  obtain ⟨tw, rfl, i_tw⟩ := f_tw
  rw [Go.ALB.Fits] at f_mo
  obtain ⟨mo, rfl, i_mo⟩ := f_mo
  rw [Go.ALB.Fits] at f_st
  obtain ⟨st, rfl, i_st⟩ := f_st
  rw [Go.ALB.Fits] at f_la
  obtain ⟨la, rfl, i_la⟩ := f_la
  rw [Go.ALB.Fits] at f_ke
  obtain ⟨ke, rfl, i_ke⟩ := f_ke
  rw [Go.ALB.Fits] at f_ps
  obtain ⟨ps, rfl, b_ps, i_ps⟩ := f_ps
  rw [Go.ALB.Fits] at f_ks
  obtain ⟨ks, rfl, b_ks, i_ks⟩ := f_ks
  rw [Go.ALB.Fits] at f_lk
  obtain ⟨lk, rfl, i_lk⟩ := f_lk
  rw [Go.ALB.Fits] at f_ln
  obtain ⟨ln, rfl, i_ln⟩ := f_ln
  rw [Go.ALB.Fits] at f_ls
  obtain ⟨ls, rfl, i_ls⟩ := f_ls
  rw [Go.ALB.Fits] at f_hk
  obtain ⟨hk, rfl, i_hk⟩ := f_hk
  rw [Go.ALB.Fits] at f_hn
  obtain ⟨hn, rfl, i_hn⟩ := f_hn
  rw [Go.ALB.Fits] at f_hs
  obtain ⟨hs, rfl, i_hs⟩ := f_hs
  rw [Go.ALB.Fits] at f_ns
  obtain ⟨ns, rfl, b_ns, i_ns⟩ := f_ns
  rw [Go.ALB.Fits] at f_xs
  obtain ⟨xs, rfl, b_xs, i_xs⟩ := f_xs
  obtain ⟨ps', rfl, c_ps⟩ := list_of (f := Pr.a) fun x hx => fit_pr (i_ps x hx)
  obtain ⟨ks', rfl, c_ks⟩ := list_of (f := AVal.str) fun x hx => fit_str (i_ks x hx)
  obtain ⟨ns', rfl, c_ns⟩ := list_of (f := Nd.a) fun x hx => fit_nd (i_ns x hx)
  obtain ⟨xs', rfl, c_xs⟩ := list_of (f := Lk.a) fun x hx => fit_lk (i_xs x hx)
  refine ⟨⟨verb, ⟨k, edge, out, id, fr, tw, mo, st, la, ke, ps', ks', ⟨lk, ln, ls⟩, ⟨hk, hn, hs⟩, ns', xs'⟩⟩, rfl, ⟨i64b i_id, i64b i_fr, i64b i_tw, i64b i_mo, i64b i_ln, i64b i_hn, c_ps, c_ns, c_xs⟩, fun w hw => Nat.le_trans (c_ks w hw) (by decide)⟩
theorem exactly {P : Program} {f : FuncId} {args : List AVal} {σ : Sto} {v : AVal} (h : ACall P f args σ fun r _ => Wk r v) : ACall P f args σ fun r _ => r = v := fun γ w vs hi hr =>
  (h γ w vs hi hr).mono fun e w' ⟨u, r, γ', τ, he, hrep, hinv, hev, hq⟩ => ⟨u, v, γ', τ, he, hq _ _ _ _ hrep, hinv, hev, rfl⟩
theorem ask_law : ∀ as', Go.ALB.FitsL [askTy, askTy] as' → ACall Tryd.prog 3 as' Sto.empty fun r _ => r = .bool true := by
  intro l h
  simp only [Go.ALB.FitsL] at h
  obtain ⟨a, r, rfl, h1, b, r2, rfl, h2, rfl⟩ := h
  obtain ⟨x, rfl, f1, k1⟩ := fit_ask h1
  obtain ⟨y, rfl, f2, k2⟩ := fit_ask h2
  exact exactly (askApart_c x y f1 f2 k1 k2)
end Go.Proofs.YtcijjgfadkflmaaDoor
end
