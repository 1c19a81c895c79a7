/-
  Seat 12 (limbo): what the law LimboActs needs besides.
-/
import Derived.Test.YtakidnohmfebmaaMl
namespace Go.Proofs.Ytakidnohmfebmaa
open Go.AL
set_option linter.unusedSimpArgs false
set_option linter.unusedVariables false
theorem ret_fold (e : Int) : ∀ (ks : List Key) (N : Nat) (row : List Key) (m : List (Key × Int)), LInv row m → ks.foldl (fun l k => retRl e k l) (items row m) = items (retN e ks (N, row, m)).2.1 (retN e ks (N, row, m)).2.2
  | [], _, _, _, _ => rfl
  | k :: ks, N, row, m, h => by
    have hs := LInv.step (x := (N, row, m)) h e k
    have h0 : (retStep e (N, row, m) k).2 = (retStep e (0, row, m) k).2 := by simp only [retStep]; split <;> rfl
    simp only [List.foldl_cons, retN]
    rw [ret_items h, ← h0]
    have := ret_fold e ks (retStep e (N, row, m) k).1 _ _ hs.1
    rw [this]
    rfl
theorem ret_fold_take (e : Int) {ks : List Key} {row : List Key} {m : List (Key × Int)} (h : LInv row m) {j : Nat} (hj : j < ks.length) :
    retRl e ks[j] (items (retN e (ks.take j) (0, row, m)).2.1 (retN e (ks.take j) (0, row, m)).2.2) = items (retN e (ks.take (j + 1)) (0, row, m)).2.1 (retN e (ks.take (j + 1)) (0, row, m)).2.2 := by
  rw [← ret_fold e _ 0 row m h, ← ret_fold e _ 0 row m h, List.take_succ_eq_append_getElem hj, List.foldl_append]
  rfl
section
variable {w0 w : World} {p q : Nat} {row : List Key} {m l : List (Key × Int)} {X : Nat → Prop}
/-- The reference's row, as it lies. -/
theorem Both.cellsR (h : Both w0 w p q row m l X) : ∃ a c, w.cell? ⟨q, 0, none⟩ = some (.slice a l.length c) ∧ ∀ i (hi : i < l.length), ∃ g off, a = some ⟨g, off, none⟩ ∧ w.cell? ⟨g, off + i * 5 + 4, none⟩ = some (.int .i64 l[i].2) := by
  obtain ⟨N1, γ1, N2, γ2, h, h1, h2⟩ := h
  obtain ⟨q', hq', vs, T, hb, hr, _⟩ := h.r.inv.objc (i := .out 0) (x := .cells [.slice (itv l) 5 (.own N2)]) rfl (by simp)
  rw [h2] at hq'
  cases hq'
  obtain ⟨v, rfl, a1⟩ := repL1 hr
  have c0 : w.cell? ⟨q, 0, none⟩ = some v := by simp [World.cell?, hb]
  generalize he : itv l = es at a1
  cases a1 with
  | @sliceRow _ _ _ _ b off cap vs h1 h2 h3 h4 h5 h6 h7 =>
    subst he
    refine ⟨_, _, by simpa using c0, fun i hi => ⟨b, off, rfl, ?_⟩⟩
    have g := flat_get itemV 5 (fun _ => rfl) l i 4 hi (by omega)
    obtain ⟨u, hu, hru⟩ := h1.get g
    cases hru
    have := (h3 _ _ hu).2
    rwa [← Nat.add_assoc] at this
  | sliceNil ht ho =>
    have : l = [] := by cases l with | nil => rfl | cons => cases he
    subst this
    exact ⟨_, _, c0, fun i hi => by simp at hi⟩
theorem Two.takeL {N1 N2 : Nat} {γ1 γ2 : Gh} (h : Two w0 γ1 (limS N1 row m) γ2 (refS N2 l) w X) (h1 : γ1.obj (.out 1) = some p) (e : Int) (hl : row.length ≤ 1000000000) :
    Calls Try.prog 11 #[lptr p, .int .i64 e] w fun x w' => ∃ N γ u, x = .returned u ∧ Rep γ w' false (.slice (kv (row.filter (below m e))) 4 .ro) u ∧
      Two w0 γ (limS N (row.filter fun k => !below m e k) (delAll (row.filter (below m e)) m)) γ2 (refS N2 l) w' X ∧ γ.obj (.out 1) = some p ∧ (∀ b, X b → w'.heap[b]? = w.heap[b]?) ∧ (∀ l, Ext l γ2 w γ2 w') := by
  refine (h.call (take_c N1 row m e hl) (.cons (.ptr h1 (.inr rfl)) (.cons (.int _ _ _) (.nil _)))).mono ?_
  rintro x w' ⟨u, r, γ', τ, rfl, g2, ⟨rfl, rfl⟩, g3, g4, g5, g6, g7⟩
  exact ⟨_, γ', u, rfl, g2, g3, g4.obj _ _ (.inr rfl) h1, g5, g6⟩
theorem Two.takeQ {N1 N2 : Nat} {γ1 γ2 : Gh} (h : Two w0 γ1 (limS N1 row m) γ2 (refS N2 l) w X) (h2 : γ2.obj (.out 0) = some q) (e : Int) (hl : l.length ≤ 100000000) :
    Calls Try.prog 15 #[lptr q, .int .i64 e] w fun x w' => ∃ N γ u, x = .returned u ∧ Rep γ w' false (.slice (kv ((l.filter fun x => decide (x.2 < e)).map (·.1))) 4 .ro) u ∧
      Two w0 γ1 (limS N1 row m) γ (refS N (l.filter fun x => !decide (x.2 < e))) w' X ∧ γ.obj (.out 0) = some q ∧ (∀ b, X b → w'.heap[b]? = w.heap[b]?) ∧ (∀ l, Ext l γ1 w γ1 w') := by
  refine (h.flip.call (takeR_c N2 l e hl) (.cons (.ptr h2 (.inr rfl)) (.cons (.int _ _ _) (.nil _)))).mono ?_
  rintro x w' ⟨u, r, γ', τ, rfl, g2, ⟨rfl, N', rfl⟩, g3, g4, g5, g6, g7⟩
  exact ⟨N', γ', u, rfl, g2, g3.flip, g4.obj _ _ (.inr rfl) h2, g5, g6⟩
end
theorem keys_fit {row : List Key} {m : List (Key × Int)} {e : Int} (he : WFi e) : ∀ (ks : List Key) (N : Nat) (row : List Key) (m : List (Key × Int)), (∀ k ∈ ks, KeyFit k) → (∀ x ∈ m, KeyFit x.1 ∧ WFi x.2) → ∀ x ∈ (retN e ks (N, row, m)).2.2, KeyFit x.1 ∧ WFi x.2
  | [], _, _, _, _, h => h
  | k :: ks, N, row, m, hk, h => by
    have hput : ∀ (v : Int), WFi v → ∀ (m : List (Key × Int)), (∀ x ∈ m, KeyFit x.1 ∧ WFi x.2) → ∀ x ∈ putM k v m, KeyFit x.1 ∧ WFi x.2 := by
      intro v hv m
      induction m with
      | nil => intro _ x hx; simp [putM] at hx; subst hx; exact ⟨hk k (by simp), hv⟩
      | cons y m ih =>
        intro h x hx
        rw [putM] at hx
        split at hx
        · rcases List.mem_cons.1 hx with rfl | hx
          · exact ⟨hk k (by simp), hv⟩
          · exact h x (by simp [hx])
        · rcases List.mem_cons.1 hx with rfl | hx
          · exact h _ (by simp)
          · exact ih (fun z hz => h z (by simp [hz])) x hx
    have hs : ∀ x ∈ (retStep e (N, row, m) k).2.2, KeyFit x.1 ∧ WFi x.2 := by
      cases ho : epochOf m k with
      | none =>
        have : retStep e (N, row, m) k = (N, row ++ [k], putM k e m) := by simp only [retStep, ho]
        rw [this]
        exact hput e he m h
      | some old =>
        have : retStep e (N, row, m) k = (N + 2, row.filter (fun y => !(y == k)) ++ [k], putM k (max old e) m) := by simp only [retStep, ho]
        rw [this]
        have hold : WFi old := by
          have hm : (epochOf m k).isSome = true := by rw [ho]; rfl
          have : ∀ (m : List (Key × Int)), (∀ x ∈ m, KeyFit x.1 ∧ WFi x.2) → ∀ v, epochOf m k = some v → WFi v := by
            intro m
            induction m with
            | nil => intro _ v hv; cases hv
            | cons y m ih =>
              intro h v hv
              rw [epochOf_cons] at hv
              split at hv
              · cases hv; exact (h y (by simp)).2
              · exact ih (fun z hz => h z (by simp [hz])) v hv
          exact this m h old ho
        refine hput _ ?_ m h
        rcases Int.le_total old e with h1 | h1
        · rw [Int.max_eq_right h1]; exact he
        · rw [Int.max_eq_left h1]; exact hold
    have := keys_fit (row := row) (m := m) he ks (retStep e (N, row, m) k).1 (retStep e (N, row, m) k).2.1 (retStep e (N, row, m) k).2.2 (fun z hz => hk z (by simp [hz])) hs
    exact this
theorem del_fit {m : List (Key × Int)} (ks : List Key) (h : ∀ x ∈ m, KeyFit x.1 ∧ WFi x.2) : ∀ x ∈ delAll ks m, KeyFit x.1 ∧ WFi x.2 := by
  have h1 : ∀ (k : Key) (m : List (Key × Int)) x, x ∈ delM k m → x ∈ m := by
    intro k m
    induction m with
    | nil => intro x hx; cases hx
    | cons y m ih =>
      intro x hx
      rw [delM] at hx
      split at hx
      · simp [hx]
      · rcases List.mem_cons.1 hx with rfl | hx
        · simp
        · simp [ih x hx]
  induction ks generalizing m with
  | nil => exact h
  | cons k ks ih => exact ih fun x hx => h x (h1 k m x hx)
end Go.Proofs.Ytakidnohmfebmaa
