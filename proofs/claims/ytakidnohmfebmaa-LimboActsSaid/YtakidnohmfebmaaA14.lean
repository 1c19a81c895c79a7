/-
  The abstract layer, part 14: the frame of a law: what comes in reads as abstract values of its types; what is left to show is a contract over these.
-/
import Derived.Test.YtakidnohmfebmaaA13
import Derived.ProofKit
import Derived.OpenShut
import Derived.ChangeSame
import Derived.SizedLaws
import Derived.JoinedOf
import Derived.JoinedCond
import Derived.Deep.CondSized
set_option linter.unusedSimpArgs false
set_option linter.unusedVariables false
set_option linter.unusedSectionVars false
namespace Go.AL
open Go.ChangeShapes Go.WideShapes Go.RowKit

/-! ### Types of plain data -/

inductive Ty where
  | bool | int (k : IntKind) | str | slice (e : Ty) (w b : Nat) | agg (cs : List Ty)

def Ty.cells : Ty → List Ty
  | .agg cs => cs
  | y => [y]

def tyFs (P : Program) (r : TypeId → Option Ty) : Nat → List Field → Option (List Ty)
  | _, [] => some []
  | i, f :: fs =>
    if f.offset ≠ i then none else
    match r f.type with
    | some y => if P.cellsOf f.type = y.cells.length then (match tyFs P r (i + y.cells.length) fs with | some ys => some (y.cells ++ ys) | none => none) else none
    | none => none

def tyOf (P : Program) : Nat → TypeId → Option Ty
  | 0, _ => none
  | n + 1, t => match P.underlying t with
    | some .bool => some .bool
    | some (.int k) => some (.int k)
    | some .string => some .str
    | some (.slice e) => match tyOf P n e with
      | some y => if P.cellsOf e = y.cells.length ∧ 0 < P.cellsOf e then some (.slice y (P.cellsOf e) (P.bytesOf e)) else none
      | none => none
    | some (.struct fs) => match tyFs P (tyOf P n) 0 fs.toList with
      | some ys => if ys.length = P.cellsOf t then some (.agg ys) else none
      | none => none
    | some (.array m e) => match tyOf P n e with
      | some y => if P.cellsOf e = y.cells.length ∧ P.cellsOf t = m * y.cells.length then some (.agg (List.replicate m y.cells).flatten) else none
      | none => none
    | _ => none

def tysOf (P : Program) : List TypeId → Option (List Ty)
  | [] => some []
  | t :: ts => match tyOf P 9 t, tysOf P ts with
    | some y, some ys => some (y :: ys)
    | _, _ => none

mutual
/-- A value that came in. -/
def Fits : Ty → AVal → Prop
  | .bool, a => ∃ b, a = .bool b
  | .int k, a => ∃ n, a = .int k n ∧ k.min ≤ n ∧ n ≤ k.max
  | .str, a => ∃ s, a = .str s ∧ s.length ≤ 140737488351232
  | .slice y w b, a => ∃ es, a = .slice es w .ro ∧ es.length * b ≤ 140737488351232 ∧ ∀ x ∈ es, Fits y x
  | .agg ys, a => ∃ cs, a = .agg cs ∧ FitsL ys cs
def FitsL : List Ty → List AVal → Prop
  | [], as => as = []
  | y :: ys, as => ∃ a r, as = a :: r ∧ Fits y a ∧ FitsL ys r
end

theorem FitsL.length : ∀ {ys : List Ty} {as : List AVal}, FitsL ys as → as.length = ys.length
  | [], _, h => by simp only [FitsL] at h; subst h; rfl
  | y :: ys, _, h => by
    simp only [FitsL] at h
    obtain ⟨a, r, rfl, _, h2⟩ := h
    simp [FitsL.length h2]

theorem FitsL.append : ∀ {ys zs : List Ty} {as bs : List AVal}, FitsL ys as → FitsL zs bs → FitsL (ys ++ zs) (as ++ bs)
  | [], _, _, _, h, k => by simp only [FitsL] at h; subst h; exact k
  | y :: ys, zs, _, bs, h, k => by
    simp only [FitsL] at h
    obtain ⟨a, r, rfl, h1, h2⟩ := h
    simp only [List.cons_append, FitsL]
    exact ⟨a, r ++ bs, rfl, h1, FitsL.append h2 k⟩

/-- The element that cells make. -/
def elemOf : Ty → List AVal → AVal
  | .agg _, as => .agg as
  | _, as => as.getD 0 .undef

theorem elemOf_spec {y : Ty} {as : List AVal} (h : FitsL y.cells as) : Fits y (elemOf y as) ∧ ((∀ a ∈ as, ∀ cs, a ≠ .agg cs) → (elemOf y as).cells = as) := by
  cases y with
  | agg ys => exact ⟨⟨as, rfl, h⟩, fun _ => rfl⟩
  | _ =>
    simp only [Ty.cells, FitsL] at h
    obtain ⟨a, r, rfl, h1, rfl⟩ := h
    refine ⟨h1, fun hn => ?_⟩
    have hn := hn a (by simp)
    simp only [elemOf, List.getD_cons_zero]
    cases a <;> first | rfl | exact absurd rfl (hn _)

theorem one_noAgg {γ : Gh} {w : World} {l : Bool} : ∀ {as : List AVal} {vs : List Value}, RepL γ w l as vs → (∀ v ∈ vs, v.oneCell' = true) → ∀ a ∈ as, ∀ cs, a ≠ .agg cs
  | _, _, .nil _, _, _, ha, _ => by cases ha
  | _, _, .cons h t, h1, a, ha, cs => by
    rcases List.mem_cons.1 ha with rfl | ha
    · rintro rfl
      rename_i v0 _ _
      have := h1 v0 (by simp)
      cases h
      cases this
    · exact one_noAgg t (fun v hv => h1 v (by simp [hv])) a ha cs

theorem choose_list {α : Type} [Inhabited α] (n : Nat) {p : Nat → α → Prop} (h : ∀ i, i < n → ∃ x, p i x) : ∃ l : List α, l.length = n ∧ ∀ i x, l[i]? = some x → p i x := by
  induction n with
  | zero => exact ⟨[], rfl, fun i x hx => by simp at hx⟩
  | succ n ih =>
    obtain ⟨l, h1, h2⟩ := ih (fun i hi => h i (by omega))
    obtain ⟨x, hx⟩ := h n (by omega)
    refine ⟨l ++ [x], by simp [h1], fun i y hy => ?_⟩
    by_cases hi : i < l.length
    · exact h2 i y (by rwa [List.getElem?_append_left hi] at hy)
    · rw [List.getElem?_append_right (by omega)] at hy
      have e : i - l.length = 0 := by
        rcases Nat.eq_zero_or_pos (i - l.length) with e | e
        · exact e
        · rw [List.getElem?_eq_none (by simp; omega)] at hy; cases hy
      rw [e] at hy
      simp at hy
      subst hy
      rwa [show i = n by omega]

section
variable {H : Type} {enc : TypeId × Value → H} {P : Program} {W : World}

/-- What is said of cells that were read as data. -/
def Opens (P : Program) (W : World) (ys : List Ty) (cs : List Value) : Prop :=
  ∃ as, FitsL ys as ∧ RepL (Gh.top W) W false as cs ∧ ∀ v ∈ cs, v.oneCell' = true

theorem Opens.append {ys zs : List Ty} {cs ds : List Value} (h : Opens P W ys cs) (k : Opens P W zs ds) : Opens P W (ys ++ zs) (cs ++ ds) := by
  obtain ⟨as, h1, h2, h3⟩ := h
  obtain ⟨bs, k1, k2, k3⟩ := k
  exact ⟨as ++ bs, h1.append k1, RepL.append k2 h2, fun v hv => (List.mem_append.1 hv).elim (h3 v) (k3 v)⟩

theorem Opens.length {ys : List Ty} {cs : List Value} (h : Opens P W ys cs) : cs.length = ys.length := by
  obtain ⟨as, h1, h2, _⟩ := h
  rw [← h2.length, h1.length]

theorem Opens.nil : Opens P W [] [] := ⟨[], rfl, .nil _, fun _ h => by cases h⟩

theorem open_fields {r : TypeId → Option Ty} {cs : List Value} : ∀ {fs : List Field} {i : Nat} {ys : List Ty}, tyFs P r i fs = some ys →
    (∀ f ∈ fs, ∀ y, r f.type = some y → Opens P W y.cells ((cs.drop f.offset).take (P.cellsOf f.type))) → Opens P W ys ((cs.drop i).take ys.length)
  | [], i, ys, h, _ => by
    simp only [tyFs, Option.some.injEq] at h
    subst h
    simpa using Opens.nil
  | f :: fs, i, ys, h, hf => by
    simp only [tyFs] at h
    split at h
    · cases h
    · rename_i ho
      have ho : f.offset = i := Classical.byContradiction ho
      split at h
      · rename_i y hy
        split at h
        · rename_i hc
          split at h
          · rename_i ys' hys
            simp only [Option.some.injEq] at h
            subst h
            have h1 := hf f (by simp) y hy
            rw [ho, hc] at h1
            have h2 := open_fields hys (fun g hg => hf g (by simp [hg]))
            have := h1.append h2
            rw [List.length_append, List.take_add]
            rwa [← List.drop_drop] at this
          · cases h
        · cases h
      · cases h

theorem open_row {y : Ty} {n : Nat} {cs : List Value} : ∀ (m i : Nat), n = y.cells.length → (∀ j, j < i + m → Opens P W y.cells ((cs.drop (j * n)).take n)) → Opens P W (List.replicate m y.cells).flatten ((cs.drop (i * n)).take (m * n))
  | 0, i, hn, h => by simpa using Opens.nil
  | m + 1, i, hn, h => by
    have h1 := h i (by omega)
    have h2 := open_row m (i + 1) hn (fun j hj => h j (by omega))
    have := h1.append h2
    rw [List.replicate_succ, List.flatten_cons, Nat.succ_mul, Nat.add_comm (m * n) n, List.take_add]
    rwa [Nat.succ_mul, ← List.drop_drop] at this

theorem addr_spot {a : Addr} {k : Nat} {v : Value} (h : W.cell? (a.add k) = some v) : a.add k = ⟨a.block, a.off + k, none⟩ ∧ (k = 0 → a.spot = none) := by
  have hspot : (a.add k).spot = none := by
    cases hsp : (a.add k).spot with
    | none => rfl
    | some s =>
      simp only [World.cell?] at h
      split at h
      · simp [hsp] at h
      · cases h
  unfold Addr.add at hspot ⊢
  split
  · rename_i h0
    subst h0
    rw [if_pos rfl] at hspot
    cases a
    simp_all
  · rename_i h0
    exact ⟨rfl, fun e => absurd e h0⟩

theorem weightsAll_mem {e : TypeId} {d : DataW H} : ∀ {ds : List (DataW H)}, d ∈ ds → ∀ m ∈ d.weights P e, m ∈ DataW.weightsAll P e ds
  | x :: r, hd, m, hm => by
    simp only [DataW.weightsAll, List.mem_append]
    rcases List.mem_cons.1 hd with rfl | hd
    · exact .inl hm
    · exact .inr (weightsAll_mem hd m hm)

theorem reach_eq : reachBytes = 140737488351232 := by decide

theorem open_cells : ∀ (n : Nat) {t : TypeId} {y : Ty}, tyOf P n t = some y → ∀ {fuel : Nat} {cs : List Value} {x : DataW H × List MemPlace}, DataW.trod enc P W 0 (fun _ => true) true fuel t cs = some x →
    (∀ m ∈ x.1.weights P t, m ≤ reachBytes) → Opens P W y.cells cs := by
  intro n
  induction n with
  | zero => intro t y h; cases h
  | succ n ih =>
    intro t y h fuel cs x hx hw
    simp only [tyOf] at h
    split at h
    · rename_i hu
      cases h
      obtain ⟨b, rfl, rfl⟩ := DataW.trod_bool hu hx
      exact ⟨[.bool b], ⟨_, _, rfl, ⟨b, rfl⟩, rfl⟩, .cons (.bool _ _) (.nil _), by simp [Value.oneCell']⟩
    · rename_i k hu
      cases h
      obtain ⟨m, rfl, rfl, hwf⟩ := DataW.trod_int hu hx
      have hwf : k.min ≤ m ∧ m ≤ k.max := by simpa [Lit.wf] using hwf
      exact ⟨[.int k m], ⟨_, _, rfl, ⟨m, rfl, hwf⟩, rfl⟩, .cons (.int _ _ _) (.nil _), by simp [Value.oneCell']⟩
    · rename_i hu
      cases h
      obtain ⟨s, rfl, rfl, hwf⟩ := DataW.trod_string hu hx
      have hs : s.data.toList.length ≤ 140737488351232 := by
        have := hw s.data.toList.length (by simp [DataW.weights])
        rwa [reach_eq] at this
      refine ⟨[.str s.data.toList], ⟨_, _, rfl, ⟨_, rfl, hs⟩, rfl⟩, .cons ?_ (.nil _), by simp [Value.oneCell']⟩
      have : (Value.string s) = .string ⟨s.data.toList.toArray⟩ := by simp
      rw [this]
      exact .str _ _
    · rename_i e hu
      split at h
      · rename_i y' hy
        split at h
        · rename_i hc
          cases h
          obtain ⟨hc, hpos⟩ := hc
          rcases DataW.trod_slice hu hx with ⟨rfl, rfl⟩ | ⟨a, len, cap, elems, rest, m, rfl, rfl, rfl, _, hlc, hmx, hlen, hel, hsp, _⟩
          · exact ⟨[.slice [] (P.cellsOf e) .ro], ⟨_, _, rfl, ⟨[], rfl, by simp, by simp⟩, rfl⟩, .cons (.sliceNil trivial (.inl rfl)) (.nil _), by simp [Value.oneCell']⟩
          · obtain ⟨hrl, hrest⟩ := hsp rfl
            have hwt : ∀ (i : Nat) (z : DataW H × List MemPlace), elems[i]? = some z → ∀ q ∈ z.1.weights P e, q ≤ reachBytes := fun i z hz q hq => hw q (by
              simp only [DataW.weights, hu, List.mem_cons, List.mem_append]
              exact .inr (.inl (weightsAll_mem (List.mem_map.2 ⟨z, List.mem_of_getElem? hz, rfl⟩) q hq)))
            have hbytes : len * P.bytesOf e ≤ 140737488351232 := by
              have := hw ((elems.map (·.1)).length * P.bytesOf e + (rest.map (·.1)).length * P.bytesOf e) (by simp [DataW.weights, hu, Nat.add_mul])
              rw [reach_eq] at this
              simp only [List.length_map, hlen] at this
              omega
            have each : ∀ i, i < len → ∃ z : List AVal × List Value, FitsL y'.cells z.1 ∧ RepL (Gh.top W) W false z.1 z.2 ∧ (∀ v ∈ z.2, v.oneCell' = true) ∧ z.2.length = P.cellsOf e ∧ ∀ j, j < P.cellsOf e → W.cell? ((a.add (i * P.cellsOf e)).add j) = z.2[j]? := by
              intro i hi
              have := hel i hi
              have hi' : i < elems.length := by omega
              rw [List.getElem?_eq_getElem hi', Option.bind_eq_some_iff] at this
              obtain ⟨cs', h1, h2⟩ := this
              obtain ⟨_, h3, h4⟩ := World.cells?_some h1
              obtain ⟨as, g1, g2, g3⟩ := ih hy h2 (hwt i _ (List.getElem?_eq_getElem hi'))
              exact ⟨(as, cs'), g1, g2, g3, h3, h4⟩
            obtain ⟨l, hl, hp⟩ := choose_list len each
            by_cases hcap : cap = 0
            · have hl0 : len = 0 := by omega
              subst hcap; subst hl0
              exact ⟨[.slice [] (P.cellsOf e) .ro], ⟨_, _, rfl, ⟨[], rfl, by simp, by simp⟩, rfl⟩, .cons (.sliceNil trivial (.inr rfl)) (.nil _), by simp [Value.oneCell']⟩
            · have hspot : a.spot = none := by
                have key : ∀ v, W.cell? ((a.add 0).add 0) = some v → a.spot = none := fun v hv => by
                  have e0 : (a.add 0) = a := by unfold Addr.add; rw [if_pos rfl]
                  rw [e0] at hv
                  exact (addr_spot hv).2 rfl
                by_cases hl0 : 0 < len
                · obtain ⟨z, hz⟩ : ∃ z, l[0]? = some z := ⟨l[0], by simp [hl, hl0]⟩
                  obtain ⟨_, _, _, q4, q5⟩ := hp 0 z hz
                  have := q5 0 hpos
                  rw [Nat.zero_mul, List.getElem?_eq_getElem (by omega)] at this
                  exact key _ this
                · have := hrest 0 (by omega)
                  rw [show len + 0 = 0 by omega, Nat.zero_mul, List.getElem?_eq_getElem (by omega), Option.bind_eq_some_iff] at this
                  obtain ⟨cs', h1, _⟩ := this
                  obtain ⟨_, h3, h4⟩ := World.cells?_some h1
                  have := h4 0 hpos
                  rw [List.getElem?_eq_getElem (by omega)] at this
                  exact key _ this
              obtain ⟨b, off, sp⟩ := a
              simp only at hspot
              subst hspot
              have hcell : ∀ i z, l[i]? = some z → ∀ j v, z.2[j]? = some v → W.cell? ⟨b, off + i * P.cellsOf e + j, none⟩ = some v := by
                intro i z hz j v hv
                obtain ⟨_, _, _, q4, q5⟩ := hp i z hz
                have hj : j < P.cellsOf e := by
                  rcases Nat.lt_or_ge j z.2.length with h | h
                  · omega
                  · rw [List.getElem?_eq_none h] at hv; cases hv
                have := q5 j hj
                rw [hv, addr_add, addr_add] at this
                exact this
              have hflat : flat (l.map fun z => elemOf y' z.1) = l.flatMap (·.1) := by
                have : ∀ z ∈ l, (elemOf y' z.1).cells = z.1 := fun z hz => by
                  obtain ⟨i, hi⟩ := List.getElem?_of_mem hz
                  obtain ⟨q1, q2, q3, _⟩ := hp i z hi
                  exact (elemOf_spec q1).2 (one_noAgg q2 q3)
                clear hcell hp hl each
                induction l with
                | nil => rfl
                | cons z l ih2 =>
                  simp only [flat, List.map_cons, List.flatMap_cons] at ih2 ⊢
                  rw [this z (by simp), ih2 (fun z' hz' => this z' (by simp [hz']))]
              have hrep : RepL (Gh.top W) W false (l.flatMap (·.1)) (l.flatMap (·.2)) ∧ ∀ v ∈ l.flatMap (·.2), v.oneCell' = true := by
                have : ∀ z ∈ l, RepL (Gh.top W) W false z.1 z.2 ∧ ∀ v ∈ z.2, v.oneCell' = true := fun z hz => by
                  obtain ⟨i, hi⟩ := List.getElem?_of_mem hz
                  obtain ⟨_, q2, q3, _⟩ := hp i z hi
                  exact ⟨q2, q3⟩
                clear hcell hp hl each hflat
                induction l with
                | nil => exact ⟨.nil _, fun v hv => by simp at hv⟩
                | cons z l ih2 =>
                  obtain ⟨g1, g2⟩ := ih2 (fun z' hz' => this z' (by simp [hz']))
                  obtain ⟨g3, g4⟩ := this z (by simp)
                  simp only [List.flatMap_cons]
                  exact ⟨RepL.append g1 g3, fun v hv => (List.mem_append.1 hv).elim (g4 v) (g2 v)⟩
              have hcells : AL.cellsAt (Gh.top W) W b off (l.flatMap (·.2)) := by
                have gen : ∀ (l' : List (List AVal × List Value)) (i0 : Nat), (∀ i z, l'[i]? = some z → z.2.length = P.cellsOf e ∧ ∀ j v, z.2[j]? = some v → W.cell? ⟨b, off + (i0 + i) * P.cellsOf e + j, none⟩ = some v) → AL.cellsAt (Gh.top W) W b (off + i0 * P.cellsOf e) (l'.flatMap (·.2)) := by
                  intro l'
                  induction l' with
                  | nil => intro i0 _ j v hj; simp at hj
                  | cons z l' ih2 =>
                    intro i0 hz
                    simp only [List.flatMap_cons]
                    obtain ⟨z1, z2⟩ := hz 0 z rfl
                    refine cellsAt.append (fun j v hj => ?_) ?_
                    · have := z2 j v hj
                      rw [Nat.add_zero] at this
                      exact ⟨World.block_lt_of_cell? W _ this, this⟩
                    · rw [z1]
                      have := ih2 (i0 + 1) (fun i z' hz' => by
                        have := hz (i + 1) z' (by simpa using hz')
                        rwa [show i0 + 1 + i = i0 + (i + 1) by omega])
                      rwa [show off + i0 * P.cellsOf e + P.cellsOf e = off + (i0 + 1) * P.cellsOf e by rw [Nat.succ_mul]; omega]
                have := gen l 0 (fun i z hz => ⟨(hp i z hz).2.2.2.1, fun j v hj => by
                  have := hcell i z hz j v hj
                  rwa [Nat.zero_add]⟩)
                simpa using this
              have hln : (l.map fun z => elemOf y' z.1).length = len := by simp [hl]
              have hs : ∀ x ∈ l.map fun z => elemOf y' z.1, x.cells.length = P.cellsOf e := fun x hx => by
                obtain ⟨z, hz, rfl⟩ := List.mem_map.1 hx
                obtain ⟨i, hi⟩ := List.getElem?_of_mem hz
                obtain ⟨q1, q2, q3, q4, _⟩ := hp i z hi
                rw [(elemOf_spec q1).2 (one_noAgg q2 q3), q2.length, q4]
              have key : Rep (Gh.top W) W false (.slice (l.map fun z => elemOf y' z.1) (P.cellsOf e) .ro) (.slice (some ⟨b, off, none⟩) (l.map fun z => elemOf y' z.1).length cap) :=
                .sliceRow (by rw [hflat]; exact hrep.1) hs hcells hrep.2 (by omega) hmx trivial
              rw [hln] at key
              refine ⟨[.slice (l.map fun z => elemOf y' z.1) (P.cellsOf e) .ro], ⟨_, _, rfl, ⟨_, rfl, by rw [hln]; exact hbytes, fun x hx => ?_⟩, rfl⟩, .cons key (.nil _), by simp [Value.oneCell']⟩
              obtain ⟨z, hz, rfl⟩ := List.mem_map.1 hx
              obtain ⟨i, hi⟩ := List.getElem?_of_mem hz
              exact (elemOf_spec (hp i z hi).1).1
        · cases h
      · cases h
    · rename_i fs hu
      split at h
      · rename_i ys hys
        split at h
        · rename_i hc
          cases h
          obtain ⟨xs, m, rfl, rfl, hl, hxl, hxs⟩ := DataW.trod_struct hu hx
          have := open_fields (P := P) (W := W) (cs := cs) hys (fun f hf y hy => by
            obtain ⟨i, hi⟩ := List.getElem?_of_mem hf
            have hi' : fs[i]? = some f := by simpa using hi
            have hlt : i < xs.length := by
              rw [hxl]
              exact (Array.getElem?_eq_some_iff.1 hi').1
            have h1 := hxs i f hi'
            rw [List.getElem?_eq_getElem hlt] at h1
            refine ih hy h1 (fun q hq => hw q ?_)
            simp only [DataW.weights, hu]
            exact DataW.weights_mem_each (j := i) (t := f.type) (d := xs[i].1) (by simp [hi]) (by simp [hlt]) q hq)
          have e : cs.take ys.length = cs := List.take_of_length_le (by omega)
          simpa [Ty.cells, e] using this
        · cases h
      · cases h
    · rename_i m e hu
      split at h
      · rename_i y' hy
        split at h
        · rename_i hc
          cases h
          obtain ⟨xs, q, rfl, rfl, hl, hxl, hxs⟩ := DataW.trod_array hu hx
          have := open_row (P := P) (W := W) (y := y') (n := P.cellsOf e) (cs := cs) m 0 hc.1 (fun j hj => by
            have hlt : j < xs.length := by omega
            have h1 := hxs j (by omega)
            rw [List.getElem?_eq_getElem hlt] at h1
            refine ih hy h1 (fun q hq => hw q ?_)
            simp only [DataW.weights, hu]
            exact weightsAll_mem (List.mem_map.2 ⟨xs[j], List.getElem_mem hlt, rfl⟩) q hq)
          have e2 : cs.take (m * P.cellsOf e) = cs := List.take_of_length_le (by rw [hl, hc.2, hc.1]; exact Nat.le_refl _)
          simpa [Ty.cells, e2] using this
        · cases h
      · cases h
    · cases h

theorem open_value {n : Nat} {t : TypeId} {y : Ty} (ht : tyOf P n t = some y) {r : Go.Reach} {b0 : Nat} {v : Value} {d : DataW H} {ps : List MemPlace} (hval : Value.okWide P W r b0 t v) (h : DataW.Trod enc P W 0 (fun _ => true) true t v d ps)
    (hw : ∀ m ∈ d.weights P t, m ≤ reachBytes) : ∃ a, Fits y a ∧ Rep (Gh.top W) W false a v := by
  obtain ⟨fuel, h⟩ := h
  obtain ⟨as, h1, h2, h3⟩ := open_cells n ht h hw
  have plain : (∀ cs, v ≠ .agg cs) → y.cells = [y] → ∃ a, Fits y a ∧ Rep (Gh.top W) W false a v := fun hv hy => by
    have hc : v.cells.toList = [v] := by cases v <;> first | rfl | exact absurd rfl (hv _)
    rw [hc] at h2
    rw [hy] at h1
    simp only [FitsL] at h1
    obtain ⟨a, r, rfl, h1, rfl⟩ := h1
    cases h2 with
    | cons h _ => exact ⟨a, h1, h⟩
  have whole : (∃ cs, v = .agg cs) → (∃ ys, y = .agg ys) → ∃ a, Fits y a ∧ Rep (Gh.top W) W false a v := by
    rintro ⟨cs, rfl⟩ ⟨ys, rfl⟩
    refine ⟨.agg as, ⟨as, rfl, h1⟩, ?_⟩
    have := Rep.agg (γ := Gh.top W) (w := W) (l := false) (cs := as) (vs := cs.toList) (by simpa [Value.cells] using h2) (by simpa [Value.cells] using h3)
    simpa using this
  cases n with
  | zero => cases ht
  | succ n =>
    simp only [tyOf] at ht
    split at ht
    · rename_i hu
      cases ht
      exact plain (fun cs e => by subst e; simp [Value.okWide, Cell.okWide, Cell.ok, hu] at hval) rfl
    · rename_i hu
      cases ht
      exact plain (fun cs e => by subst e; simp [Value.okWide, Cell.okWide, Cell.ok, hu] at hval) rfl
    · rename_i hu
      cases ht
      exact plain (fun cs e => by subst e; simp [Value.okWide, Cell.okWide, Cell.ok, hu] at hval) rfl
    · rename_i hu
      split at ht
      · split at ht
        · cases ht
          exact plain (fun cs e => by subst e; simp [Value.okWide, Cell.okWide, Cell.ok, hu] at hval) rfl
        · cases ht
      · cases ht
    · rename_i hu
      split at ht
      · split at ht
        · cases ht
          simp only [Value.okWide, hu] at hval
          obtain ⟨cs, rfl, _⟩ := hval
          exact whole ⟨_, rfl⟩ ⟨_, rfl⟩
        · cases ht
      · cases ht
    · rename_i hu
      split at ht
      · split at ht
        · cases ht
          simp only [Value.okWide, hu] at hval
          obtain ⟨cs, rfl, _⟩ := hval
          exact whole ⟨_, rfl⟩ ⟨_, rfl⟩
        · cases ht
      · cases ht
    · cases ht

theorem open_args {r : Go.Reach} {b0 : Nat} : ∀ {ts : List TypeId} {ys : List Ty} {vs : List Value} {ds : List (DataW H)} {ps : List MemPlace}, tysOf P ts = some ys → (∀ (j : Nat) t v, ts[j]? = some t → vs[j]? = some v → Value.okWide P W r b0 t v) →
    DataW.TrodAll enc P W 0 (fun _ => true) true ts vs ds ps → (∀ m ∈ DataW.weightsEach P ts ds, m ≤ reachBytes) → ∃ as, FitsL ys as ∧ RepL (Gh.top W) W false as vs
  | [], ys, [], [], _, h, _, _, _ => by
    simp only [tysOf, Option.some.injEq] at h
    subst h
    exact ⟨[], rfl, .nil _⟩
  | t :: ts, ys, v :: vs, d :: ds, _, h, hval, ⟨p, q, h1, h2, _⟩, hw => by
    simp only [tysOf] at h
    split at h
    · rename_i y ys' hy hys
      cases h
      obtain ⟨a, g1, g2⟩ := open_value hy (hval 0 t v rfl rfl) h1 (fun m hm => hw m (by simp [DataW.weightsEach, hm]))
      obtain ⟨as, g3, g4⟩ := open_args hys (fun j t v ht hv => hval (j + 1) t v (by simpa using ht) (by simpa using hv)) h2 (fun m hm => hw m (by simp [DataW.weightsEach, hm]))
      exact ⟨a :: as, ⟨a, as, rfl, g1, g3⟩, .cons g2 g4⟩
    · cases h

/-! ### What came in reads behind the call as before -/

theorem tyFs_mem {r : TypeId → Option Ty} : ∀ {fs : List Field} {i : Nat} {ys : List Ty}, tyFs P r i fs = some ys → ∀ f ∈ fs, ∃ y, r f.type = some y
  | [], _, _, _, _, hf => by cases hf
  | f :: fs, i, ys, h, g, hg => by
    simp only [tyFs] at h
    split at h
    · cases h
    · split at h
      · rename_i y hy
        split at h
        · split at h
          · rename_i ys' hys
            rcases List.mem_cons.1 hg with rfl | hg
            · exact ⟨y, hy⟩
            · exact tyFs_mem hys g hg
          · cases h
        · cases h
      · cases h

theorem reread {sp : Nat → Bool} : ∀ (n : Nat) {t : TypeId} {y : Ty}, tyOf P n t = some y → ∀ {fuel : Nat} {cs : List Value} {x : DataW H × List MemPlace}, DataW.trod enc P W 0 (fun _ => true) true fuel t cs = some x →
    (∀ p ∈ x.2, sp p.block = true) → DataW.trod enc P W 0 sp true fuel t cs = some x := by
  intro n
  induction n with
  | zero => intro t y h; cases h
  | succ n ih =>
    intro t y h fuel cs x hx hp
    cases fuel with
    | zero => simp [DataW.trod] at hx
    | succ fuel =>
    rw [DataW.trod_step] at hx ⊢
    simp only [tyOf] at h
    unfold DataW.trodStep at hx ⊢
    split at h
    · rename_i hu; rw [hu] at hx ⊢; split at hx <;> simp_all
    · rename_i k hu; rw [hu] at hx ⊢; split at hx <;> simp_all
    · rename_i hu; rw [hu] at hx ⊢; split at hx <;> simp_all
    · rename_i e hu
      split at h
      · rename_i y' hy
        split at h
        · rename_i hc
          rw [hu] at hx ⊢
          split at hx <;> first | (simp_all; done) | skip
          rename_i e' a len cap he
          simp only [Option.some.injEq, TypeDesc.slice.injEq] at he
          subst he
          simp only [] at hx ⊢
          split at hx
          · rename_i hlc
            rw [if_pos hlc]
            simp only [if_true, Option.bind_eq_some_iff, Option.map_eq_some_iff] at hx ⊢
            obtain ⟨elems, h1, rest, h2, rfl⟩ := hx
            simp only [List.mem_append, List.mem_flatMap] at hp
            have hel : ∀ i z, ((W.cells? 0 (a.add (i * P.cellsOf e)) (P.cellsOf e)).bind (DataW.trod enc P W 0 (fun _ => true) true fuel e)) = some z → (∀ p ∈ z.2, sp p.block = true) → ((W.cells? 0 (a.add (i * P.cellsOf e)) (P.cellsOf e)).bind (DataW.trod enc P W 0 sp true fuel e)) = some z := by
              intro i z hz hzp
              rw [Option.bind_eq_some_iff] at hz ⊢
              obtain ⟨cs', g1, g2⟩ := hz
              exact ⟨cs', g1, ih hy g2 hzp⟩
            refine ⟨elems, mapM_carry h1 (fun i z _ hz hiz => hel i z hiz (fun p hpz => hp p (.inr ⟨z, by simp [hz], hpz⟩))), rest, ?_, rfl⟩
            by_cases hcap : cap - len = 0
            · rw [hcap] at h2 ⊢
              simp at h2 ⊢
              exact h2
            · have hsp : sp a.block = true := by
                refine hp (.cell a.block (a.off + 0)) (.inl (MemPlace.mem_row.2 ⟨0, ?_, rfl⟩))
                have hrl := mapM_some_length h2
                simp at hrl
                exact Nat.mul_pos (by omega) hc.2
              rw [if_pos hsp]
              exact mapM_carry h2 (fun j z _ hz hiz => hel _ z hiz (fun p hpz => hp p (.inr ⟨z, by simp [hz], hpz⟩)))
          · cases hx
        · cases h
      · cases h
    · rename_i fs hu
      split at h
      · rename_i ys hys
        rw [hu] at hx ⊢
        have hx' : (if cs.length = P.cellsOf t then (fs.toList.mapM fun f => DataW.trod enc P W 0 (fun _ => true) true fuel f.type ((cs.drop f.offset).take (P.cellsOf f.type))).map fun xs => ((.agg (xs.map (·.1)), xs.flatMap (·.2)) : DataW H × List MemPlace) else none) = some x := by
          split at hx <;> simp_all
        have goal : (if cs.length = P.cellsOf t then (fs.toList.mapM fun f => DataW.trod enc P W 0 sp true fuel f.type ((cs.drop f.offset).take (P.cellsOf f.type))).map fun xs => ((.agg (xs.map (·.1)), xs.flatMap (·.2)) : DataW H × List MemPlace) else none) = some x := by
          split at hx'
          · rename_i hl
            rw [if_pos hl]
            simp only [Option.map_eq_some_iff] at hx' ⊢
            obtain ⟨xs, h1, rfl⟩ := hx'
            refine ⟨xs, mapM_carry h1 (fun f z hf hz hfz => ?_), rfl⟩
            obtain ⟨y2, hy2⟩ := tyFs_mem hys f hf
            exact ih hy2 hfz (fun p hpz => hp p (List.mem_flatMap.2 ⟨z, hz, hpz⟩))
          · cases hx'
        split <;> simp_all
      · cases h
    · rename_i m e hu
      split at h
      · rename_i y' hy
        rw [hu] at hx ⊢
        have hx' : (if cs.length = P.cellsOf t then ((List.range m).mapM fun i => DataW.trod enc P W 0 (fun _ => true) true fuel e ((cs.drop (i * P.cellsOf e)).take (P.cellsOf e))).map fun xs => ((.agg (xs.map (·.1)), xs.flatMap (·.2)) : DataW H × List MemPlace) else none) = some x := by
          split at hx <;> simp_all
        have goal : (if cs.length = P.cellsOf t then ((List.range m).mapM fun i => DataW.trod enc P W 0 sp true fuel e ((cs.drop (i * P.cellsOf e)).take (P.cellsOf e))).map fun xs => ((.agg (xs.map (·.1)), xs.flatMap (·.2)) : DataW H × List MemPlace) else none) = some x := by
          split at hx'
          · rename_i hl
            rw [if_pos hl]
            simp only [Option.map_eq_some_iff] at hx' ⊢
            obtain ⟨xs, h1, rfl⟩ := hx'
            refine ⟨xs, mapM_carry h1 (fun f z hf hz hfz => ?_), rfl⟩
            exact ih hy hfz (fun p hpz => hp p (List.mem_flatMap.2 ⟨z, hz, hpz⟩))
          · cases hx'
        split <;> simp_all
      · cases h
    · cases h

theorem carry_all {sp : Nat → Bool} {W' : World} (hb : Below W.heap.size W W') : ∀ {ts : List TypeId} {ys : List Ty} {vs : List Value} {ds : List (DataW H)} {ps : List MemPlace}, tysOf P ts = some ys → DataW.TrodAll enc P W 0 (fun _ => true) true ts vs ds ps →
    (∀ p ∈ ps, sp p.block = true) → DataW.TrodAll enc P W' 0 sp true ts vs ds ps
  | [], _, [], [], _, _, h, _ => h
  | t :: ts, ys, v :: vs, d :: ds, _, hy, ⟨p, q, ⟨fuel, h1⟩, h2, rfl⟩, hp => by
    simp only [tysOf] at hy
    split at hy
    · rename_i y ys' hy1 hys
      have h3 := reread (sp := sp) 9 hy1 h1 (fun r hr => hp r (by simp [hr]))
      exact ⟨p, q, ⟨fuel, DataW.trod_carry _ _ _ _ h3 (fun r hr => hb.same (DataW.trod_lt _ _ _ _ h1 r hr))⟩, carry_all hb hys h2 (fun r hr => hp r (by simp [hr])), rfl⟩
    · cases hy

/-- The step from a run to a statement, where the run makes memory and nothing more. -/
theorem post_below {f : Func} {s : ChangeSpec} {apart fresh handsOn again : Bool} {W' : World} {args : Array Value} {v : Value} {ds gs : List (DataW H)} {before pa pv : List MemPlace}
    (hW : DataW.Whole enc P f.params.toList s.vars apart W args.toList ds gs before)
    (hres : ∀ (b : Nat) (sp : Nat → Bool) (hd : Bool), DataW.TrodAll enc P W' b sp hd f.resultTypes.toList (v.resultList f.resultTypes.size) (s.fn H (ds ++ gs)).results [])
    (hargs : ∀ sp : Nat → Bool, (∀ p ∈ before, sp p.block = true) → DataW.TrodAll enc P W' 0 sp true f.params.toList args.toList (s.fn H (ds ++ gs)).args pa)
    (hvars : ∀ sp : Nat → Bool, (∀ p ∈ before, sp p.block = true) → DataW.TrodVars enc P W' sp s.vars (s.fn H (ds ++ gs)).vars pv)
    (hps : before = pa ++ pv) (hb : Below W.heap.size W W')
    (hok : ∀ (j : Nat) (t : TypeId) (r : Value), f.resultTypes[j]? = some t → (v.resultList f.resultTypes.size)[j]? = some r → Value.okWide P W' .any 0 t r) :
    s.post enc P f apart fresh handsOn again W args v W' := by
  have hlt : ∀ p ∈ before, p.block < W.heap.size := fun p hp => hW.lt p hp
  have hold : ∀ p ∈ before, (fun b => decide (b < W.heap.size)) p.block = true := fun p hp => by simpa using hlt p hp
  refine ⟨ds, gs, before, [], pa, pv, hW, hres _ _ _, hargs _ hold, hvars _ hold, World.keptBut_mono (fun p hp => ⟨hp, ?_⟩) (hb.frame (· ∈ before)), fun _ => ?_⟩
  · rw [hps, List.mem_append] at hp
    exact Or.inr hp
  · obtain ⟨_, _, _, _, _, hz, hn⟩ := hW
    refine ⟨hok, _, _, ([] ++ pa) ++ pv, ⟨[] ++ pa, pv, trodAll_append (hargs _ (fun _ _ => rfl)) (hres _ _ _), hvars _ (fun _ _ => rfl), rfl, ?_, ?_⟩, ?_⟩
    · intro b off hp
      have hin : MemPlace.cell b off ∈ before := by rw [hps]; simpa using hp
      rw [hb.frozen (hlt _ hin)]
      exact hz b off hin
    · intro ha
      have := hn ha
      rw [hps] at this
      simpa using this
    · intro p hp _
      rw [hps]
      simpa using hp

end

/-! ### A law -/

/-- 'It is true, and what came in reads as it did.' -/
structure IsLaw (s : ChangeSpec) (n : Nat) : Prop where
  vars : s.vars = []
  fn : ∀ (H : Type) (ds : List (DataW H)), ds.length = n → (s.fn H ds).results = [.lit (.bool true)] ∧ (s.fn H ds).args = ds ∧ (s.fn H ds).vars = []

theorem law_post {H : Type} {enc : TypeId × Value → H} {P : Program} {f : FuncId} {fn : Func} {s : ChangeSpec} {apart fresh handsOn again : Bool} (hs : IsLaw s fn.params.size) {tb : TypeId} (hres : fn.resultTypes = #[tb]) (hb : P.underlying tb = some .bool)
    {ys : List Ty} (hty : tysOf P fn.params.toList = some ys) (hlaw : ∀ as, FitsL ys as → ACall P f as Sto.empty fun r _ => r = .bool true)
    {W : World} {r : Go.Reach} {base : Nat} {args : Array Value} {ds gs : List (DataW H)} {before : List MemPlace}
    (hval : ∀ (j : Nat) t v, fn.params[j]? = some t → args[j]? = some v → Value.okWide P W r base t v)
    (hW : DataW.Whole enc P fn.params.toList s.vars apart W args.toList ds gs before)
    (hw : (DataW.weightsEach P (fn.params.toList ++ s.plain.varTypes P) (ds ++ gs)).all (· ≤ reachBytes) = true) (hA : Known W) :
    Calls P f args W fun e W' => ∃ v, e = .returned v ∧ s.post enc P fn apart fresh handsOn again W args v W' := by
  have hA0 := hA
  have hW' := hW
  obtain ⟨p, q, hA, hV, rfl, _, _⟩ := hW
  rw [hs.vars] at hV
  have hgs : gs = [] ∧ q = [] := by
    cases gs with
    | nil => exact ⟨rfl, hV⟩
    | cons _ _ => exact hV.elim
  obtain ⟨rfl, rfl⟩ := hgs
  have hdl : ds.length = fn.params.size := by
    have key : ∀ (ts : List TypeId) (vs : List Value) (ds : List (DataW H)) (ps : List MemPlace), DataW.TrodAll enc P W 0 (fun _ => true) true ts vs ds ps → ds.length = ts.length := by
      intro ts
      induction ts with
      | nil => intro vs ds ps h; cases vs <;> cases ds <;> first | rfl | exact h.elim
      | cons t ts ih =>
        intro vs ds ps h
        cases vs with
        | nil => cases ds <;> exact h.elim
        | cons v vs =>
          cases ds with
          | nil => exact h.elim
          | cons d ds =>
            obtain ⟨p, q, _, h2, _⟩ := h
            simp [ih vs ds q h2]
    have := key _ _ _ _ hA
    simpa using this
  have hw' : ∀ m ∈ DataW.weightsEach P fn.params.toList ds, m ≤ reachBytes := fun m hm => by
    have hvt : s.plain.varTypes P = [] := by
      have : s.plain.vars = [] := hs.vars
      simp [WideSpec.plain, DataSpec.varTypes, ChangeSpec.plain, hs.vars]
    rw [hvt] at hw
    simp only [List.append_nil, List.all_eq_true, decide_eq_true_eq] at hw
    exact hw m hm
  obtain ⟨as, h1, h2⟩ := open_args hty (fun j t v ht hv => hval j t v (by simpa using ht) (by simpa using hv)) hA hw'
  have hcall := (hlaw as h1).top hA0 h2
  simp only [Array.toArray_toList] at hcall
  refine hcall.mono fun e W' ⟨v, a, γ', σ', he, hr, ha, hbl⟩ => ?_
  subst ha
  cases hr
  refine ⟨_, he, ?_⟩
  obtain ⟨g1, g2, g3⟩ := hs.fn H (ds ++ []) (by simpa using hdl)
  refine post_below (pa := p) (pv := []) hW' (fun b sp hd => ?_) (fun sp hsp => ?_) (fun sp hsp => ?_) rfl hbl ?_
  · rw [g1, hres]
    exact trodAll_cons_mk (shut_bool hb true) trodAll_mk0
  · rw [g2, List.append_nil]
    exact carry_all hbl hty hA (fun p hp => hsp p (by simp [hp]))
  · rw [g3, hs.vars]
    rfl
  · exact ok_one hres rfl (okWide_bool_mk hb _)

end Go.AL
