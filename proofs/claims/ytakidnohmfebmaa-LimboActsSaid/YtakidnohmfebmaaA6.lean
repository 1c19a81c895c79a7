/-
  The abstract layer, part 6: rows that are appended to.
-/
import Derived.Test.YtakidnohmfebmaaA5
import Derived.Deep.AppendSrc
namespace Go.AL
noncomputable section
set_option linter.unusedSimpArgs false
set_option linter.unusedVariables false

def Sto.setOwn (σ : Sto) (p n : Nat) : Sto := { σ with own := fun q => if q = p then some n else σ.own q }
def Sto.pushOwn (σ : Sto) (n : Nat) : Sto := { σ with nown := σ.nown + 1, own := fun q => if q = σ.nown then some n else σ.own q }

def Gh.setOwn (γ : Gh) (p : Nat) (x : Own) (b lo hi : Nat) : Gh :=
  { γ with imm := fun b' o => γ.imm b' o ∨ (b' = b ∧ lo ≤ o ∧ o < hi), own := fun q => if q = p then x else γ.own q }

/-- A permission p of which no row is known yet, or an older one, gets a new row: a block that has just been made. -/
theorem Conc.ownNew {γ : Gh} {w w1 : World} {a : Act} {st : St} (h : Conc γ w a st) {cur : Array Value} {T : TypeId} (hh : w1.heap = w.heap.push (.cells cur T)) (hos : w1.os = w.os) (htp : w1.tape = w.tape) (hou : w1.output = w.output)
    {p cap n s : Nat} (hs : 0 < s) (hcur : cur.size = cap * s) (hn : n ≤ cap) (hm : cap ≤ maxLen) (hstep : OwnStep (γ.own p) (.row w.heap.size cap n s)) {σ' : Sto} (ho : σ'.obj = st.σ.obj) (hno : σ'.nobj = st.σ.nobj)
    (hw : σ'.own = fun q => if q = p then some n else st.σ.own q) (hnw : p < σ'.nown) (hnw2 : st.σ.nown ≤ σ'.nown) :
    Conc (γ.setOwn p (.row w.heap.size cap n s) w.heap.size 0 (n * s)) w1 a { st with σ := σ' } ∧ EvoS γ w st (γ.setOwn p (.row w.heap.size cap n s) w.heap.size 0 (n * s)) w1 { st with σ := σ' } ∧
      Ext true γ w (γ.setOwn p (.row w.heap.size cap n s) w.heap.size 0 (n * s)) w1 := by
  have hold : ∀ b, b < w.heap.size → w1.heap[b]? = w.heap[b]? := fun b hb => by rw [hh, Array.getElem?_push, if_neg (by omega)]
  have hnew : w1.heap[w.heap.size]? = some (.cells cur T) := by rw [hh]; simp
  have hOb : St.objAt { st with σ := σ' } = st.objAt := by funext i; cases i <;> simp [St.objAt, ho]
  have e : ∀ l, Ext l γ w (γ.setOwn p (.row w.heap.size cap n s) w.heap.size 0 (n * s)) w1 := fun l =>
    ⟨fun b o hi => ⟨.inl hi, cell?_heap (hold b (h.inv.imm_lt hi))⟩, fun _ _ _ hi => hi, fun q => by
      simp only [Gh.setOwn]
      split
      · rename_i e; subst e; exact hstep
      · exact OwnStep.refl _⟩
  have nimm : ∀ b o, b < w.heap.size → (γ.setOwn p (.row w.heap.size cap n s) w.heap.size 0 (n * s)).imm b o → γ.imm b o := fun b o hb hi => hi.elim id (fun hh => by omega)
  have hlt : ∀ i x b, st.objAt i = some x → γ.obj i = some b → b < w.heap.size := fun i x b hx hb => by
    exact (h.inv.objb hx hb).lt
  refine ⟨⟨h.size, fun t => Rep.mono (e true) (h.fr t), h.defers, ?_⟩, ⟨hos, htp, hou, by rw [hh]; simp, fun b hb _ => hold b hb, e false, fun b o hi => ?_, fun b hm' => ?_⟩, e true⟩
  · rw [hOb]
    refine ⟨fun b o hi => ?_, fun i x hx => ?_, h.inv.inj, fun q k hq => ?_, fun q r k m b hq hr hbq hbr => ?_, fun i x q k b hx hq hbi hbq => ?_, fun k hk => h.inv.freshO k (hno ▸ hk), fun q hq => ?_, h.inv.amb.mono (e true) (by rw [hh]; simp)⟩
    · rcases hi with hi | ⟨rfl, h1, h2⟩
      · exact Nat.lt_of_lt_of_le (h.inv.imm b o hi) (by rw [hh]; simp)
      · exact block_lt hnew
    · rcases h.inv.obj i x hx with h1 | ⟨b, hb, hok⟩
      · exact .inl h1
      exact .inr ⟨b, hb, hok.mono (e _) (hold b hok.lt) (fun o hi => hok.notImm o (nimm b o hok.lt hi))⟩
    · simp only [hw] at hq
      simp only [Gh.setOwn]
      split at hq
      · rename_i e1
        cases hq
        rw [if_pos e1]
        refine ⟨rfl, hs, hn, hm, ⟨cur, T, hnew, hcur⟩, fun o ho hi => ?_⟩
        rcases hi with hi | ⟨_, _, h2⟩
        · have := h.inv.imm_lt hi; omega
        · omega
      · rename_i e1
        rw [if_neg e1]
        have hok := h.inv.own q k hq
        exact hok.mono (fun b hb => hold b (hok.lt hb)) (fun b o hb hi => nimm b o (hok.lt hb) hi)
    · simp only [hw] at hq hr
      simp only [Gh.setOwn] at hbq hbr
      by_cases e1 : q = p <;> by_cases e2 : r = p
      · rw [e1, e2]
      · rw [if_pos e1] at hbq; rw [if_neg e2] at hbr hr
        have := (h.inv.own r m hr).lt hbr
        simp only [Own.blk, Option.some.injEq] at hbq; omega
      · rw [if_neg e1] at hbq hq; rw [if_pos e2] at hbr
        have := (h.inv.own q k hq).lt hbq
        simp only [Own.blk, Option.some.injEq] at hbr; omega
      · rw [if_neg e1] at hbq hq; rw [if_neg e2] at hbr hr
        exact h.inv.ownInj q r k m b hq hr hbq hbr
    · simp only [hw] at hq
      simp only [Gh.setOwn] at hbq
      by_cases e1 : q = p
      · rw [if_pos e1] at hbq
        simp only [Own.blk, Option.some.injEq] at hbq
        have := hlt i x b hx hbi
        omega
      · rw [if_neg e1] at hbq hq
        exact h.inv.apart i x q k b hx hq hbi hbq
    · simp only [Gh.setOwn]
      have hq' : σ'.nown ≤ q := hq
      rw [if_neg (by omega)]
      exact h.inv.freshW q (by omega)
  · rcases hi with hi | ⟨rfl, _⟩
    · exact .inl hi
    · exact .inr (.inl (Nat.le_refl _))
  · rcases hm' with ⟨i, x, hx, hb⟩ | ⟨q, k, hq, hb⟩
    · rw [hOb] at hx
      exact .inl (.inl ⟨i, x, hx, hb⟩)
    · simp only [hw] at hq
      simp only [Gh.setOwn] at hb
      by_cases e1 : q = p
      · rw [if_pos e1] at hb
        simp only [Own.blk, Option.some.injEq] at hb
        exact .inr (by omega)
      · rw [if_neg e1] at hq hb
        exact .inl (.inr ⟨q, k, hq, hb⟩)

/-- A permission's row grows within its block. -/
theorem Conc.ownIn {γ : Gh} {w w1 : World} {a : Act} {st : St} (h : Conc γ w a st) {p b cap n m s : Nat} {cur : Array Value} {T : TypeId} {news : List Value} (hp : st.σ.own p = some n) (hg : γ.own p = .row b cap n s)
    (hb : w.heap[b]? = some (.cells cur T (0, 0))) (hcur : cur.size = cap * s) (hl : news.length = m * s) (hroom : n + m ≤ cap) (hw1 : w1 = w.setRow b (cur.toList.take (n * s) ++ news ++ cur.toList.drop (n * s + news.length)).toArray)
    (hm0 : 0 < m) :
    Conc (γ.setOwn p (.row b cap (n + m) s) b (n * s) ((n + m) * s)) w1 a { st with σ := st.σ.setOwn p (n + m) } ∧
      EvoS γ w st (γ.setOwn p (.row b cap (n + m) s) b (n * s) ((n + m) * s)) w1 { st with σ := st.σ.setOwn p (n + m) } ∧
      Ext true γ w (γ.setOwn p (.row b cap (n + m) s) b (n * s) ((n + m) * s)) w1 ∧ AL.cellsAt (γ.setOwn p (.row b cap (n + m) s) b (n * s) ((n + m) * s)) w1 b (n * s) news := by
  obtain ⟨_, hs, hnc, hcm, _, hni⟩ : ownOk γ w (.row b cap n s) n := hg ▸ h.inv.own p n hp
  have hbs : b < w.heap.size := block_lt hb
  have hfit : n * s + news.length ≤ cur.size := by rw [hl, hcur, ← Nat.add_mul]; exact Nat.mul_le_mul_right _ hroom
  have hns : n * s ≤ cur.size := by omega
  have hold : ∀ b', b' ≠ b → w1.heap[b']? = w.heap[b']? := fun b' hb' => by rw [hw1]; exact setRow_other w b b' _ hb'
  have hnew : w1.heap[b]? = some (.cells (cur.toList.take (n * s) ++ news ++ cur.toList.drop (n * s + news.length)).toArray T (0, 0)) := by rw [hw1]; exact setRow_heap w b cur _ T (0, 0) hb
  have hsz : w1.heap.size = w.heap.size := by rw [hw1]; simp
  have hcell : ∀ o, o < n * s → w1.cell? ⟨b, o, none⟩ = w.cell? ⟨b, o, none⟩ := fun o ho => by
    simp only [World.cell?, hnew, hb]
    simp only [Option.isSome_none, Bool.false_eq_true, if_false]
    rw [List.getElem?_toArray, List.append_assoc, List.getElem?_append_left (by simp; omega), List.getElem?_take, if_pos ho]
    simp
  have himm : ∀ o, γ.imm b o → o < n * s := fun o hi => by
    rcases Nat.lt_or_ge o (n * s) with h1 | h1
    · exact h1
    · exact absurd hi (hni o h1)
  have e : ∀ l, Ext l γ w (γ.setOwn p (.row b cap (n + m) s) b (n * s) ((n + m) * s)) w1 := fun l =>
    ⟨fun b' o hi => ⟨.inl hi, by
      by_cases eb : b' = b
      · subst eb; exact hcell o (himm o hi)
      · exact cell?_heap (hold b' eb)⟩, fun _ _ _ hi => hi, fun q => by
      simp only [Gh.setOwn]
      split
      · rename_i e; subst e; rw [hg]; exact .inr (.inr ⟨_, _, _, _, rfl, by omega⟩)
      · exact OwnStep.refl _⟩
  have nimm : ∀ b' o, b' ≠ b → (γ.setOwn p (.row b cap (n + m) s) b (n * s) ((n + m) * s)).imm b' o → γ.imm b' o := fun b' o hb' hi => hi.elim id (fun hh => absurd hh.1 hb')
  have hsize2 : (cur.toList.take (n * s) ++ news ++ cur.toList.drop (n * s + news.length)).toArray.size = cap * s := by
    simp; omega
  have hOb : St.objAt { st with σ := st.σ.setOwn p (n + m) } = st.objAt := by funext i; cases i <;> simp [St.objAt, Sto.setOwn]
  refine ⟨⟨h.size, fun t => Rep.mono (e true) (h.fr t), h.defers, ?_⟩, ⟨by rw [hw1]; rfl, by rw [hw1]; rfl, by rw [hw1]; rfl, by omega, fun b' hb' hm' => hold b' (fun eb => hm' (.inr ⟨p, n, hp, by rw [hg, eb]; rfl⟩)), e false, fun b' o hi => ?_, fun b' hm' => ?_⟩, e true, fun j v hj => ?_⟩
  · rw [hOb]
    refine ⟨fun b' o hi => ?_, fun i x hx => ?_, h.inv.inj, fun q k hq => ?_, fun q r k m' b' hq hr hbq hbr => ?_, fun i x q k b' hx hq hbi hbq => ?_, h.inv.freshO, fun q hq => ?_, h.inv.amb.mono (e true) (by omega)⟩
    · rcases hi with hi | ⟨rfl, h1, h2⟩
      · exact Nat.lt_of_lt_of_le (h.inv.imm b' o hi) (by omega)
      · exact block_lt hnew
    · rcases h.inv.obj i x hx with hh1 | ⟨b', hb', hok⟩
      · exact .inl hh1
      have hne : b' ≠ b := fun eb => h.inv.apart i x p n b' hx hp hb' (by rw [hg, eb]; rfl)
      exact .inr ⟨b', hb', hok.mono (e _) (hold b' hne) (fun o hi => hok.notImm o (nimm b' o hne hi))⟩
    · simp only [Sto.setOwn] at hq
      simp only [Gh.setOwn]
      split at hq
      · rename_i e1
        cases hq
        rw [if_pos e1]
        refine ⟨rfl, hs, hroom, hcm, ⟨_, T, hnew, hsize2⟩, fun o ho hi => ?_⟩
        rcases hi with hi | ⟨_, _, h2⟩
        · have := himm o hi
          have : n * s ≤ (n + m) * s := Nat.mul_le_mul_right _ (by omega)
          omega
        · omega
      · rename_i e1
        rw [if_neg e1]
        have hok := h.inv.own q k hq
        have hne : ∀ b', (γ.own q).blk = some b' → b' ≠ b := fun b' hb' eb => e1 (h.inv.ownInj q p k n b' hq hp hb' (by rw [hg, eb]; rfl))
        exact hok.mono (fun b' hb' => hold b' (hne b' hb')) (fun b' o hb' hi => nimm b' o (hne b' hb') hi)
    · have key : ∀ q k b', (st.σ.setOwn p (n + m)).own q = some k → ((γ.setOwn p (.row b cap (n + m) s) b (n * s) ((n + m) * s)).own q).blk = some b' → ∃ k', st.σ.own q = some k' ∧ (γ.own q).blk = some b' := fun q k b' hq hb' => by
        simp only [Sto.setOwn] at hq
        simp only [Gh.setOwn] at hb'
        by_cases e1 : q = p
        · rw [if_pos e1] at hb'
          subst e1
          exact ⟨n, hp, by rw [hg]; exact hb'⟩
        · rw [if_neg e1] at hq hb'
          exact ⟨k, hq, hb'⟩
      obtain ⟨k1, g1, g2⟩ := key q k b' hq hbq
      obtain ⟨k2, g3, g4⟩ := key r m' b' hr hbr
      exact h.inv.ownInj q r k1 k2 b' g1 g3 g2 g4
    · simp only [Sto.setOwn] at hq
      simp only [Gh.setOwn] at hbq
      by_cases e1 : q = p
      · rw [if_pos e1] at hbq
        exact h.inv.apart i x p n b' hx hp hbi (by rw [hg]; exact hbq)
      · rw [if_neg e1] at hbq hq
        exact h.inv.apart i x q k b' hx hq hbi hbq
    · simp only [Gh.setOwn]
      have hq' : st.σ.nown ≤ q := hq
      have hfree := h.inv.freshW q hq'
      have : q ≠ p := fun e1 => by rw [e1, hg] at hfree; cases hfree
      rw [if_neg this]
      exact hfree
  · rcases hi with hi | ⟨rfl, _⟩
    · exact .inl hi
    · exact .inr (.inr (.inr ⟨p, n, hp, by rw [hg]; rfl⟩))
  · refine .inl ?_
    rcases hm' with ⟨i, x, hx, hb'⟩ | ⟨q, k, hq, hb'⟩
    · rw [hOb] at hx
      exact .inl ⟨i, x, hx, hb'⟩
    · simp only [Sto.setOwn] at hq
      simp only [Gh.setOwn] at hb'
      by_cases e1 : q = p
      · rw [if_pos e1] at hb'
        exact .inr ⟨p, n, hp, by rw [hg]; exact hb'⟩
      · rw [if_neg e1] at hq hb'
        exact .inr ⟨q, k, hq, hb'⟩
  · have hlt : j < news.length := by
      rcases Nat.lt_or_ge j news.length with h1 | h1
      · exact h1
      · rw [List.getElem?_eq_none h1] at hj; cases hj
    refine ⟨.inr ⟨rfl, by omega, by rw [Nat.add_mul, ← hl]; omega⟩, ?_⟩
    simp only [World.cell?, hnew]
    simp only [Option.isSome_none, Bool.false_eq_true, if_false]
    rw [List.getElem?_toArray, List.append_assoc, List.getElem?_append_right (by simp; omega)]
    have : n * s + j - (cur.toList.take (n * s)).length = j := by simp; omega
    rw [this, List.getElem?_append_left hlt]
    exact hj

/-- A permission p that is new, or is let go by nobody, is said to be a slice without room. -/
theorem Conc.ownFull {γ : Gh} {w : World} {a : Act} {st : St} (h : Conc γ w a st) (n : Nat) :
    Conc { γ with own := fun q => if q = st.σ.nown then .full n else γ.own q } w a { st with σ := st.σ.pushOwn n } ∧ EvoS γ w st { γ with own := fun q => if q = st.σ.nown then .full n else γ.own q } w { st with σ := st.σ.pushOwn n } ∧
      Ext true γ w { γ with own := fun q => if q = st.σ.nown then .full n else γ.own q } w := by
  have hfree := h.inv.freshW st.σ.nown (Nat.le_refl _)
  have e : ∀ l, Ext l γ w { γ with own := fun q => if q = st.σ.nown then .full n else γ.own q } w := fun l =>
    ⟨fun b o hi => ⟨hi, rfl⟩, fun _ _ _ hi => hi, fun q => by
      simp only []
      split
      · rename_i e; subst e; rw [hfree]; trivial
      · exact OwnStep.refl _⟩
  have hOb : St.objAt { st with σ := st.σ.pushOwn n } = st.objAt := by funext i; cases i <;> simp [St.objAt, Sto.pushOwn]
  have hblk : ∀ q b k, (st.σ.pushOwn n).own q = some k → ((if q = st.σ.nown then Own.full n else γ.own q)).blk = some b → ∃ k', st.σ.own q = some k' ∧ (γ.own q).blk = some b := fun q b k hq hb => by
    simp only [Sto.pushOwn] at hq
    by_cases e1 : q = st.σ.nown
    · rw [if_pos e1] at hb; simp [Own.blk] at hb
    · rw [if_neg e1] at hb hq
      exact ⟨k, hq, hb⟩
  refine ⟨⟨h.size, fun t => Rep.mono (e true) (h.fr t), h.defers, ?_⟩, ⟨rfl, rfl, rfl, Nat.le_refl _, fun _ _ _ => rfl, e false, fun _ _ hi => .inl hi, fun b hm => ?_⟩, e true⟩
  · rw [hOb]
    refine ⟨h.inv.imm, fun i x hx => ?_, h.inv.inj, fun q k hq => ?_, fun q r k m b hq hr hbq hbr => ?_, fun i x q k b hx hq hbi hbq => ?_, h.inv.freshO, fun q hq => ?_, h.inv.amb.mono (e true) (Nat.le_refl _)⟩
    · rcases h.inv.obj i x hx with h1 | ⟨b, hb, hok⟩
      · exact .inl h1
      exact .inr ⟨b, hb, hok.mono (e _) rfl hok.notImm⟩
    · simp only [Sto.pushOwn] at hq
      simp only []
      split at hq
      · rename_i e1; cases hq; rw [if_pos e1]; rfl
      · rename_i e1; rw [if_neg e1]
        exact (h.inv.own q k hq).mono (fun _ _ => rfl) (fun _ _ _ hi => hi)
    · obtain ⟨k1, g1, g2⟩ := hblk q b k hq hbq
      obtain ⟨k2, g3, g4⟩ := hblk r b m hr hbr
      exact h.inv.ownInj q r k1 k2 b g1 g3 g2 g4
    · obtain ⟨k1, g1, g2⟩ := hblk q b k hq hbq
      exact h.inv.apart i x q k1 b hx g1 hbi g2
    · have hq' : st.σ.nown + 1 ≤ q := hq
      simp only []
      rw [if_neg (by omega)]
      exact h.inv.freshW q (by omega)
  · refine .inl ?_
    rcases hm with ⟨i, x, hx, hb⟩ | ⟨q, k, hq, hb⟩
    · rw [hOb] at hx; exact .inl ⟨i, x, hx, hb⟩
    · obtain ⟨k1, g1, g2⟩ := hblk q b k hq hb
      exact .inr ⟨q, k1, g1, g2⟩

end
end Go.AL
