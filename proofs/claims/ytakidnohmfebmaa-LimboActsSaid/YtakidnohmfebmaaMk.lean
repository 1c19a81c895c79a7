/-
  Seat 12 (limbo): plain laws: a limbo and the reference's list.
-/
import Derived.Test.YtakidnohmfebmaaMj
namespace Go.Proofs.Ytakidnohmfebmaa
open Go.AL
set_option linter.unusedSimpArgs false
set_option linter.unusedVariables false
def items (row : List Key) (m : List (Key × Int)) : List (Key × Int) := row.map fun k => (k, (epochOf m k).getD 0)
theorem items_length (row : List Key) (m : List (Key × Int)) : (items row m).length = row.length := by simp [items]
theorem items_congr {row : List Key} {m m' : List (Key × Int)} (h : ∀ k ∈ row, epochOf m k = epochOf m' k) : items row m = items row m' := List.map_congr_left fun k hk => by rw [h k hk]
theorem items_get (row : List Key) (m : List (Key × Int)) (i : Nat) (h : i < row.length) : (items row m)[i]'(by rw [items_length]; exact h) = (row[i], (epochOf m row[i]).getD 0) := by simp [items]
theorem find_out {row : List Key} {m : List (Key × Int)} {k : Key} (h : k ∉ row) : findI (items row m) k = none :=
  findI_none fun x hx => by
    obtain ⟨y, hy, rfl⟩ := List.mem_map.1 hx
    exact fun e => h (e ▸ hy)
theorem find_in {row : List Key} {m : List (Key × Int)} {k : Key} (hn : row.Nodup) (h : k ∈ row) : ∃ i, ∃ hi : i < row.length, findI (items row m) k = some i ∧ row[i] = k := by
  obtain ⟨i, hi, rfl⟩ := List.getElem_of_mem h
  refine ⟨i, hi, findI_at (by rw [items_length]; exact hi) (fun x hx => ?_) (by rw [items_get _ _ _ hi]), rfl⟩
  obtain ⟨j, hj, rfl⟩ := List.mem_take_iff_getElem.1 hx
  rw [items_length] at hj
  rw [items_get _ _ _ (by omega)]
  exact List.pairwise_iff_getElem.1 hn j i (by omega) hi (by omega)
theorem filter_ne {row : List Key} (hn : row.Nodup) {i : Nat} (hi : i < row.length) : row.filter (fun y => !(y == row[i])) = row.eraseIdx i := by
  rw [List.eraseIdx_eq_take_drop_succ]
  have h1 : row = row.take i ++ row[i] :: row.drop (i + 1) := by rw [List.getElem_cons_drop, List.take_append_drop]
  have hp := List.pairwise_iff_getElem.1 hn
  have h2 := congrArg (List.filter (fun y => !(y == row[i]))) h1
  rw [h2, List.filter_append, List.filter_cons_of_neg (by simp)]
  congr 1
  · rw [List.filter_eq_self]
    intro a ha
    obtain ⟨j, hj, rfl⟩ := List.mem_take_iff_getElem.1 ha
    have := hp j i (by omega) hi (by omega)
    simpa using this
  · rw [List.filter_eq_self]
    intro a ha
    obtain ⟨j, hj, rfl⟩ := List.mem_drop_iff_getElem.1 ha
    have := hp i (i + 1 + j) hi (by omega) (by omega)
    simpa using Ne.symm this
theorem items_erase (row : List Key) (m : List (Key × Int)) (i : Nat) : (items row m).eraseIdx i = items (row.eraseIdx i) m := by
  rw [List.eraseIdx_eq_take_drop_succ, List.eraseIdx_eq_take_drop_succ]
  simp [items]
theorem ret_items {row : List Key} {m : List (Key × Int)} (h : LInv row m) (e : Int) (k : Key) : retRl e k (items row m) = items (retStep e (0, row, m) k).2.1 (retStep e (0, row, m) k).2.2 := by
  cases ho : epochOf m k with
  | none =>
    have hk : k ∉ row := fun hk => by have := (h.ofSome k).1 hk; rw [ho] at this; cases this
    have hs : retStep e (0, row, m) k = (0, row ++ [k], putM k e m) := by simp only [retStep, ho]
    rw [hs]
    simp only [retRl, find_out hk]
    have h1 : items (row ++ [k]) (putM k e m) = items row (putM k e m) ++ [(k, e)] := by simp [items, epochOf_putM]
    rw [h1, items_congr (m' := putM k e m) fun x hx => ?_]
    rw [epochOf_putM, if_neg (fun hh : k = x => hk (hh ▸ hx))]
  | some old =>
    have hk : k ∈ row := (h.ofSome k).2 (by rw [ho]; rfl)
    have hs : retStep e (0, row, m) k = (2, row.filter (fun y => !(y == k)) ++ [k], putM k (max old e) m) := by simp only [retStep, ho]
    rw [hs]
    obtain ⟨i, hi, hf, rfl⟩ := find_in (m := m) h.rowN hk
    simp only [retRl, hf]
    have hg : ((items row m).getD i it0).2 = old := by
      rw [List.getD_eq_getElem?_getD, List.getElem?_eq_getElem (by rw [items_length]; exact hi), items_get _ _ _ hi, ho]; rfl
    rw [hg, items_erase, ← filter_ne h.rowN hi]
    have h1 : items (row.filter (fun y => !(y == row[i])) ++ [row[i]]) (putM row[i] (max old e) m) = items (row.filter (fun y => !(y == row[i]))) (putM row[i] (max old e) m) ++ [(row[i], max old e)] := by simp [items, epochOf_putM]
    rw [h1, items_congr (m' := putM row[i] (max old e) m) fun x hx => ?_]
    have : x ≠ row[i] := by
      have := (List.mem_filter.1 hx).2
      simpa using this
    rw [epochOf_putM, if_neg (fun hh : row[i] = x => this hh.symm)]
theorem back_items {row : List Key} (m : List (Key × Int)) (hn : row.Nodup) (k : Key) : backRl k (items row m) = items (row.filter fun y => !(y == k)) m ∧ (row.filter fun y => !(y == k)).length + (backRn k (items row m)).toNat = row.length ∧ 0 ≤ backRn k (items row m) := by
  by_cases hk : k ∈ row
  · obtain ⟨i, hi, hf, rfl⟩ := find_in (m := m) hn hk
    refine ⟨by simp only [backRl, hf]; rw [items_erase, ← filter_ne hn hi], ?_, by simp [backRn, hf]⟩
    simp only [backRn, hf, Option.isSome_some, if_true]
    rw [filter_ne hn hi, List.length_eraseIdx_of_lt hi]
    have : (1 : Int).toNat = 1 := rfl
    omega
  · have hf := find_out (m := m) hk
    have he : row.filter (fun y => !(y == k)) = row := List.filter_eq_self.2 fun a ha => by
      have : a ≠ k := fun e => hk (e ▸ ha)
      simpa using this
    rw [he]
    exact ⟨by simp only [backRl, hf], by simp [backRn, hf], by simp [backRn, hf]⟩
theorem take_items (row : List Key) (m : List (Key × Int)) (e : Int) : (((items row m).filter fun x => decide (x.2 < e)).map (·.1)) = row.filter (below m e) := by
  unfold items
  rw [List.filter_map, List.map_map]
  conv => rhs; rw [← List.map_id (row.filter (below m e))]
  rfl
theorem left_items {row : List Key} {m : List (Key × Int)} (h : LInv row m) (e : Int) : ((items row m).filter fun x => !decide (x.2 < e)) = items (row.filter fun k => !below m e k) (delAll (row.filter (below m e)) m) := by
  have h1 : ((items row m).filter fun x => !decide (x.2 < e)) = items (row.filter fun k => !below m e k) m := by
    unfold items
    rw [List.filter_map]
    rfl
  rw [h1]
  refine items_congr fun k hk => ?_
  rw [epochOf_delAll _ h.keysN, if_neg]
  intro hc
  have h2 := (List.mem_filter.1 hk).2
  rw [(List.mem_filter.1 hc).2] at h2
  cases h2
theorem out_items {row : List Key} {m : List (Key × Int)} (h : LInv row m) (ks : List Key) : items (row.filter fun k => !ks.contains k) m = items (row.filter fun k => !ks.contains k) (delAll (row.filter fun k => ks.contains k) m) := by
  refine items_congr fun k hk => ?_
  rw [epochOf_delAll _ h.keysN, if_neg]
  intro hc
  have h2 := (List.mem_filter.1 hk).2
  rw [(List.mem_filter.1 hc).2] at h2
  cases h2
theorem filter_snoc (row : List Key) (ks : List Key) (k : Key) : (row.filter fun x => !(ks ++ [k]).contains x) = (row.filter fun x => !ks.contains x).filter fun y => !(y == k) := by
  rw [List.filter_filter]
  refine List.filter_congr fun x _ => ?_
  simp only [List.contains_eq_mem, List.mem_append, List.mem_singleton]
  by_cases h1 : x ∈ ks <;> by_cases h2 : x = k <;> simp [h1, h2]
theorem insE_mem (e y : Int) : ∀ {o : List Int}, y ∈ insE e o ↔ y = e ∨ y ∈ o
  | [] => by simp [insE]
  | x :: r => by
    unfold insE
    split
    · rw [List.mem_cons, insE_mem e y, List.mem_cons]
      constructor
      · rintro (h | h | h) <;> simp [h]
      · rintro (h | h | h) <;> simp [h]
    · split
      · rename_i h; subst h
        simp
      · simp
theorem insE_sorted (e : Int) : ∀ {o : List Int}, o.Pairwise (· < ·) → (insE e o).Pairwise (· < ·)
  | [], _ => by simp [insE]
  | x :: r, h => by
    rw [List.pairwise_cons] at h
    unfold insE
    split
    · rename_i hx
      rw [List.pairwise_cons]
      refine ⟨fun y hy => ?_, insE_sorted e h.2⟩
      rcases (insE_mem e y).1 hy with rfl | hy
      · exact hx
      · exact h.1 y hy
    · split
      · rw [List.pairwise_cons]; exact h
      · rename_i h1 h2
        rw [List.pairwise_cons, List.pairwise_cons]
        refine ⟨fun y hy => ?_, h⟩
        rcases List.mem_cons.1 hy with rfl | hy
        · omega
        · have := h.1 y hy; omega
theorem epl_spec (l : List (Key × Int)) : (epl l).Pairwise (· < ·) ∧ ∀ y, y ∈ epl l ↔ ∃ x ∈ l, x.2 = y := by
  have key : ∀ (l : List (Key × Int)) (o : List Int), o.Pairwise (· < ·) → (l.foldl (fun o x => insE x.2 o) o).Pairwise (· < ·) ∧ ∀ y, y ∈ l.foldl (fun o x => insE x.2 o) o ↔ y ∈ o ∨ ∃ x ∈ l, x.2 = y := by
    intro l
    induction l with
    | nil => intro o ho; exact ⟨ho, fun y => by simp⟩
    | cons x l ih =>
      intro o ho
      obtain ⟨h1, h2⟩ := ih (insE x.2 o) (insE_sorted x.2 ho)
      refine ⟨h1, fun y => ?_⟩
      simp only [List.foldl_cons]
      rw [h2 y, insE_mem]
      constructor
      · rintro ((h | h) | ⟨z, hz, h⟩)
        · exact .inr ⟨x, by simp, h.symm⟩
        · exact .inl h
        · exact .inr ⟨z, by simp [hz], h⟩
      · rintro (h | ⟨z, hz, h⟩)
        · exact .inl (.inr h)
        · rcases List.mem_cons.1 hz with rfl | hz
          · exact .inl (.inl h.symm)
          · exact .inr ⟨z, hz, h⟩
  obtain ⟨h1, h2⟩ := key l [] .nil
  exact ⟨h1, fun y => by rw [epl, h2 y]; simp⟩
theorem sorted_eq {xs ys : List Int} (h1 : xs.Pairwise (· < ·)) (h2 : ys.Pairwise (· < ·)) (h : ∀ y, y ∈ xs ↔ y ∈ ys) : xs = ys := by
  have n1 : xs.Nodup := h1.imp fun h => Int.ne_of_lt h
  have n2 : ys.Nodup := h2.imp fun h => Int.ne_of_lt h
  exact List.Perm.eq_of_pairwise (fun a b _ _ h1 h2 => by omega) h1 h2 ((List.perm_ext_iff_of_nodup n1 n2).2 h)
theorem epl_items {row : List Key} {m : List (Key × Int)} (h : LInv row m) {xs : List Int} (h1 : xs.Pairwise (· < ·)) (h2 : ∀ y, y ∈ xs ↔ ∃ k, epochOf m k = some y) : xs = epl (items row m) := by
  obtain ⟨g1, g2⟩ := epl_spec (items row m)
  refine sorted_eq h1 g1 fun y => ?_
  rw [h2, g2]
  constructor
  · rintro ⟨k, hk⟩
    exact ⟨(k, (epochOf m k).getD 0), List.mem_map_of_mem ((h.ofSome k).2 (by rw [hk]; rfl)), by rw [hk]; rfl⟩
  · rintro ⟨x, hx, rfl⟩
    obtain ⟨k, hk, rfl⟩ := List.mem_map.1 hx
    obtain ⟨v, hv⟩ := Option.isSome_iff_exists.1 ((h.ofSome k).1 hk)
    exact ⟨k, by rw [hv]; rfl⟩
end Go.Proofs.Ytakidnohmfebmaa
