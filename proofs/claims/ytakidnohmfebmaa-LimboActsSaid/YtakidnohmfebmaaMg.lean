/-
  Seat 12 (limbo): the epochs of a limbo's keys.
-/
import Derived.Test.YtakidnohmfebmaaMf
namespace Go.Proofs
open Go.RowKit Go.Maps Go.Sort Go.Shelf Go.AL Ytakidnohmfebmaa
set_option linter.unusedSimpArgs false
set_option linter.unusedVariables false
set_option maxHeartbeats 4000000
set_option maxRecDepth 1000000
def WFi (x : Int) : Prop := (Lit.int .i64 x).wf = true
def KeyFit (k : Key) : Prop := WFi k.1 ∧ WFi k.2.1 ∧ WFi k.2.2.1 ∧ k.2.2.2.length ≤ maxLen
theorem keyLits_int (d : Nat) {n : Int} (h : WFi n) : Try.prog.keyLits (d + 1) 3 [.int .i64 n] = some [.int .i64 n] := by
  unfold Program.keyLits
  rw [Try.underlying3]
  exact if_pos ⟨rfl, h⟩
theorem keyLits_str (d : Nat) {s : List UInt8} (h : s.length ≤ maxLen) : Try.prog.keyLits (d + 1) 9 [.string ⟨s.toArray⟩] = some [.string s] := by
  unfold Program.keyLits
  rw [Try.underlying9]
  exact if_pos h
theorem keyOf_key {k : Key} (h : KeyFit k) : ∃ z, keyOf Try.prog 30 (keyVal k) = some (.string z) := by
  obtain ⟨h1, h2, h3, h4⟩ := h
  obtain ⟨n, hn⟩ : ∃ n, Try.prog.types.size = n + 1 := ⟨Try.prog.types.size - 1, by kernel_rfl⟩
  have hc : Try.prog.cellsOf 30 = 4 := by kernel_rfl
  have hci : Try.prog.cellsOf 3 = 1 := by kernel_rfl
  have hcs : Try.prog.cellsOf 9 = 1 := by kernel_rfl
  have hkt : Try.prog.keyType 30 = true := by kernel_rfl
  have e : Try.prog.keyLits (n + 2) 30 [.int .i64 k.1, .int .i64 k.2.1, .int .i64 k.2.2.1, .string ⟨k.2.2.2.toArray⟩] = some [.int .i64 k.1, .int .i64 k.2.1, .int .i64 k.2.2.1, .string k.2.2.2] := by
    unfold Program.keyLits
    rw [Try.underlying30]
    simp [hc, hci, hcs, keyLits_int _ h1, keyLits_int _ h2, keyLits_int _ h3, keyLits_str _ h4]
  unfold keyOf
  rw [Try.underlying30]
  simp only [hkt, Value.formed, keyVal, Try.underlying30, hc, hn]
  simp
  exact ⟨_, _, e, rfl⟩
theorem keyVal_inj {a b : Key} (h : keyVal a = keyVal b) : a = b := by
  obtain ⟨a1, a2, a3, a4⟩ := a
  obtain ⟨b1, b2, b3, b4⟩ := b
  simp [keyVal] at h
  obtain ⟨rfl, rfl, rfl, rfl⟩ := h
  rfl
theorem rep_key_val {γ : Gh} {w : World} {l : Bool} {k : Key} {v : Value} (h : Rep γ w l (keyV k) v) : v = keyVal k := by
  cases h with
  | agg h h1 =>
    have := repL_keyV h
    subst this
    rfl
/-- What a datum says of a map. -/
structure Says (D : DataW Nat) (m : List (Key × Int)) : Prop where
  at1 : ∀ k v, epochOf m k = some v → ∃ z, has D (.string z) = true ∧ D.atKey (.string z) (.lit (.int .i64 0)) = .lit (.int .i64 v)
  of1 : ∀ z, has D (.string z) = true → ∃ k v, epochOf m k = some v ∧ D.atKey (.string z) (.lit (.int .i64 0)) = .lit (.int .i64 v)
theorem owns12 {w : World} {b : Nat} {m : List (Key × Int)} (h : MapK w b m) (hn : (keysM m).Nodup) (hf : ∀ x ∈ m, KeyFit x.1 ∧ WFi x.2) (hl : m.length ≤ 1000000000) :
    ∃ D : DataW Nat, w.ownsMap Try.prog 30 (plainElem Try.prog 3) b m.length D ∧ Says D m := by
  obtain ⟨ents, clock, hb, hr, h3, h4, h5⟩ := h
  have hlen : ents.size = m.length := by have := hr.1; rw [mv_length] at this; simpa using this.symm
  have hat : ∀ i (hi : i < m.length), ∃ e, ents.toList[i]? = some e ∧ e.key = keyVal m[i].1 ∧ e.val = .int .i64 m[i].2 := fun i hi => by
    have he : i < ents.toList.length := by simpa [hlen] using hi
    have hm : (mv m)[i]? = some (keyV m[i].1, .int .i64 m[i].2) := by simp [mv, List.getElem?_eq_getElem hi]
    obtain ⟨q1, q2⟩ := hr.2 i _ _ hm (List.getElem?_eq_getElem he)
    refine ⟨_, List.getElem?_eq_getElem he, rep_key_val q1, ?_⟩
    generalize (ents.toList[i]).val = vv at q2
    cases q2; rfl
  have hmem : ∀ e ∈ ents.toList, ∃ x ∈ m, e.key = keyVal x.1 ∧ e.val = .int .i64 x.2 := fun e he => by
    obtain ⟨i, hi, rfl⟩ := List.getElem_of_mem he
    have hi' : i < m.length := by simpa [hlen] using hi
    obtain ⟨e', q0, q1, q2⟩ := hat i hi'
    rw [List.getElem?_eq_getElem hi] at q0
    cases q0
    exact ⟨m[i], List.getElem_mem hi', q1, q2⟩
  have hkeys : (ents.toList.map (·.key)).Nodup := by
    have e : ents.toList.map (·.key) = (keysM m).map keyVal := by
      apply List.ext_getElem?
      intro i
      rw [List.getElem?_map, List.getElem?_map, List.getElem?_map]
      rcases Nat.lt_or_ge i m.length with hi | hi
      · obtain ⟨e, q0, q1, _⟩ := hat i hi
        rw [q0, List.getElem?_eq_getElem hi]
        simp [q1]
      · rw [List.getElem?_eq_none (by simpa [hlen] using hi), List.getElem?_eq_none (by simpa using hi)]
        rfl
    rw [e]
    exact List.Pairwise.map keyVal (fun a b hab he => hab (keyVal_inj he)) hn
  have hreads : ∀ x ∈ ents.toList, ∃ y, WideElems.rd (H := Nat) Try.prog 30 (plainElem Try.prog 3) x = some y := fun x hx => by
    obtain ⟨y, hy, q1, q2⟩ := hmem x hx
    obtain ⟨z, hz⟩ := keyOf_key (hf y hy).1
    refine ⟨(.string z, .lit (.int .i64 y.2)), ?_⟩
    unfold WideElems.rd
    rw [q1, hz, q2, plainElem_int Try.underlying3 (hf y hy).2]
    rfl
  have hown : w.ownsMap Try.prog 30 (plainElem Try.prog 3) b m.length (DataW.map ((ents.toList.map (WideElems.rg (H := Nat) Try.prog 30 (plainElem Try.prog 3))).foldr DataW.insert [])) :=
    ⟨ents, clock, hb, ⟨by rw [hlen]; unfold maxLen; omega, ⟨h3, h4, hkeys⟩, hreads⟩, by omega, rfl⟩
  refine ⟨_, hown, ?_⟩
  have hM : MapK w b m := ⟨ents, clock, hb, hr, h3, h4, h5⟩
  have hlook : ∀ k v, epochOf m k = some v → ∀ z, keyOf Try.prog 30 (keyVal k) = some (.string z) → has (DataW.map ((ents.toList.map (WideElems.rg (H := Nat) Try.prog 30 (plainElem Try.prog 3))).foldr DataW.insert [])) (.string z) = true ∧
      (DataW.map ((ents.toList.map (WideElems.rg (H := Nat) Try.prog 30 (plainElem Try.prog 3))).foldr DataW.insert [])).atKey (.string z) (.lit (.int .i64 0)) = .lit (.int .i64 v) := fun k v hv z hz => by
    obtain ⟨r1, r2⟩ := hM.look k
    obtain ⟨c, g1, g2, _⟩ := hown.lookup_int keyKeyed Try.underlying27 Try.underlying3 (zeroI w) hz
    rw [r1, hv] at g1
    simp at g1
    obtain ⟨v', ps, g3, g4⟩ := hown.look_ok keyKeyed Try.underlying27 (zeroI w) (plainElem_int Try.underlying3 (by decide)) hz
    rw [r2, hv] at g3
    simp at g3
    exact ⟨g3.2, by rw [g2, g1]⟩
  refine ⟨fun k v hv => ?_, fun z hz => ?_⟩
  · have hk : k ∈ keysM m := (epochOf_isSome m k).1 (by rw [hv]; rfl)
    obtain ⟨x, hx, rfl⟩ := List.mem_map.1 hk
    obtain ⟨z, hz⟩ := keyOf_key (hf x hx).1
    obtain ⟨g1, g2⟩ := hlook _ v hv z hz
    exact ⟨z, g1, g2⟩
  · rw [has_eq, List.any_eq_true] at hz
    obtain ⟨p, hp, hs⟩ := hz
    have hp := mem_sorted.1 hp
    obtain ⟨e, he, rfl⟩ := List.mem_map.1 hp
    obtain ⟨x, hx, q1, q2⟩ := hmem e he
    obtain ⟨z', hz'⟩ := keyOf_key (hf x hx).1
    have hrg : WideElems.rg (H := Nat) Try.prog 30 (plainElem Try.prog 3) e = (.string z', .lit (.int .i64 x.2)) := by
      refine WideElems.rg_of ?_
      unfold WideElems.rd
      rw [q1, hz', q2, plainElem_int Try.underlying3 (hf x hx).2]
      rfl
    rw [hrg] at hs
    have hzz : z' = z := by simpa [Lit.sameKey] using hs
    subst hzz
    have hi : (epochOf m x.1).isSome = true := (epochOf_isSome m x.1).2 (List.mem_map_of_mem hx)
    obtain ⟨v, hv⟩ := Option.isSome_iff_exists.1 hi
    exact ⟨x.1, v, hv, (hlook _ v hv z' hz').2⟩
end Go.Proofs
