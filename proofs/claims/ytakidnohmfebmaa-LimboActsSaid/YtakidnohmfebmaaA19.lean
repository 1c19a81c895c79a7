/-
  The abstract layer, part 19: maps of plain keys and whole numbers, as a walk of the kit's meets them: looked up, written, 'm[k]++', how many.
-/
import Derived.Test.YtakidnohmfebmaaA18
namespace Go.AL
set_option linter.unusedSimpArgs false
set_option linter.unusedVariables false
/-- A ghost of nothing: values that lead nowhere. -/
def Gh.none : Gh := ⟨fun _ _ => False, fun _ => .none, fun _ => .free⟩
theorem Ext.none (w w' : World) (l : Bool) : Ext l Gh.none w Gh.none w' := ⟨fun _ _ h => h.elim, fun _ _ _ h => h, fun p => OwnStep.refl _⟩
theorem keyEq {P : Program} {w0 : World} {γ : Gh} {l : Bool} {T : TypeId} {a b : AVal} (ha : kOk P T a = true) (hb : kOk P T b = true) (he : eqK a b = true) {u v : Value} (hu : Rep γ w0 l a u) (hv : Rep γ w0 l b v) : v = u := by
  unfold kOk at ha hb
  cases hx : leafOf P T with
  | some x =>
    rw [hx] at ha hb
    simp only [] at ha hb
    rw [eqK_leaf ha] at he
    exact (eqC_val ha hb he hu hv).1.symm
  | none =>
    rw [hx] at ha hb
    simp only [] at ha hb
    cases ht : tPlain P T with
    | none => rw [ht] at ha; cases ha
    | some ls =>
      rw [ht] at ha hb
      simp only [] at ha hb
      split at ha
      · split at hb
        · cases hu with
          | agg hu h1 => cases hv with
            | agg hv h2 =>
              obtain ⟨e1, e2⟩ := eqCs_val ha hb he hu hv
              subst e1
              rfl
        · cases hb
      · cases ha
theorem mapFind_miss (k : AVal) : ∀ (es : List (AVal × AVal)) (i : Nat), mapFind k es i = .none → ∀ z ∈ es, eqK k z.1 = false
  | [], _, _, z, hz => by cases hz
  | x :: es, i, h, z, hz => by
    unfold mapFind at h
    cases he : eqK k x.1 with
    | true => rw [he] at h; cases h
    | false =>
      rw [he] at h
      simp only [] at h
      rcases List.mem_cons.1 hz with rfl | hz
      · exact he
      · exact mapFind_miss k es (i + 1) h z hz
theorem modLast {α : Type} (f : α → α) (a : α) : ∀ l : List α, (l ++ [a]).modify l.length f = l ++ [f a]
  | [] => rfl
  | b :: r => by simp [List.modify_succ_cons, modLast f a r]
theorem setSelf {α : Type} : ∀ (l : List α) (j : Nat) (a : α), l[j]? = some a → l.set j a = l
  | [], _, _, h => by simp at h
  | b :: r, 0, a, h => by simp at h; subst h; rfl
  | b :: r, j + 1, a, h => by simp at h; simp [setSelf r j a h]
theorem modSet {α : Type} (f : α → α) : ∀ (l : List α) (j : Nat) (a : α), l[j]? = some a → l.modify j f = l.set j (f a)
  | [], _, _, h => by simp at h
  | b :: r, 0, a, h => by simp at h; subst h; rfl
  | b :: r, j + 1, a, h => by simp at h; simp [List.modify_succ_cons, modSet f r j a h]
/-- Block b is a map with these entries. -/
def MapG (P : Program) (kt : TypeId) (w : World) (b : Nat) (es : List (AVal × AVal)) : Prop :=
  ∃ ents clock, w.heap[b]? = some (.map ents clock) ∧ RepE Gh.none w false es ents.toList ∧ (∀ e ∈ ents.toList, e.born < clock) ∧ (ents.toList.map (·.born)).Nodup ∧ keysOk P kt es = true
theorem MapG.keep {P : Program} {kt : TypeId} {w w' : World} {b : Nat} {es : List (AVal × AVal)} (h : MapG P kt w b es) (hb : w'.heap[b]? = w.heap[b]?) : MapG P kt w' b es := by
  obtain ⟨ents, clock, h1, h2, h3⟩ := h
  exact ⟨ents, clock, hb.trans h1, h2.mono (Ext.none w w' false), h3⟩
theorem MapG.lt {P : Program} {kt : TypeId} {w : World} {b : Nat} {es : List (AVal × AVal)} (h : MapG P kt w b es) : b < w.heap.size := by
  obtain ⟨ents, clock, h1, _⟩ := h
  exact block_lt h1
theorem MapG.made (P : Program) (kt : TypeId) (w : World) : MapG P kt (w.alloc (.map #[] 0)) w.heap.size [] :=
  ⟨#[], 0, heap_alloc_new _ _, ⟨rfl, fun i x e h => by simp at h⟩, fun e h => by simp at h, by simp, rfl⟩
/-- What is under a key. -/
def lookN (k : AVal) (es : List (AVal × AVal)) : Option Int := (mapFind k es 0).map fun x => x.2.intOf
def numsOk (es : List (AVal × AVal)) : Prop := ∀ x ∈ es, ∃ n, x.2 = .int .i64 n
section
variable {P : Program} {t kt et : TypeId} {w : World} {b : Nat} {es : List (AVal × AVal)}
theorem MapG.find (h : MapG P kt w b es) (hn : numsOk es) {k : AVal} (hk : kOk P kt k = true) {uk : Value} (hu : Rep Gh.none w false k uk) :
    ∃ ents clock, w.heap[b]? = some (.map ents clock) ∧ (∀ w', (Instr.checkKey false 10000 kt uk).run P w' = .ok () w' ∧ (Instr.checkKey true 10000 kt uk).run P w' = .ok () w') ∧
      ((mapFind k es 0 = .none ∧ ∀ w', (Instr.findKey kt uk ents.toList).run P w' = .ok .none w') ∨
       ∃ j e0 n, mapFind k es 0 = some (j, .int .i64 n) ∧ ents[j]? = some e0 ∧ e0.val = .int .i64 n ∧ e0.key = uk ∧ (∀ w', (Instr.findKey kt uk ents.toList).run P w' = .ok (some (j, e0.val)) w') ∧
         (∀ w', (Instr.keyThatStays e0.key uk).run P w' = .ok uk w') ∧ mapPut k (.int .i64 n) es = es.set j (k, .int .i64 n)) := by
  obtain ⟨ents, clock, h1, h2, h3, h4, h5⟩ := h
  refine ⟨ents, clock, h1, fun w' => ⟨run_checkKey hk hu, run_checkKey hk hu⟩, ?_⟩
  have hs := mapFind_spec k es 0
  cases hm : mapFind k es 0 with
  | none =>
    refine .inl ⟨rfl, fun w' => ?_⟩
    obtain ⟨r, hr, hf⟩ := run_findKey (w := w') hk hu h2 h5
    unfold Found at hf
    rw [hm] at hf
    rw [hr, show r = .none from hf]
  | some y =>
    rw [hm] at hs
    obtain ⟨j, z, g1, g2, g3, g4⟩ := hs
    have hj : y.1 = j := by omega
    obtain ⟨e0, he0⟩ : ∃ e0, ents.toList[j]? = some e0 := by
      have : j < es.length := by
        rcases Nat.lt_or_ge j es.length with h | h
        · exact h
        · rw [List.getElem?_eq_none h] at g2; cases g2
      exact ⟨ents.toList[j]'(by rw [← h2.1]; exact this), List.getElem?_eq_getElem _⟩
    have hz1 := h2.2 j z e0 g2 he0
    have hzm := List.mem_of_getElem? g2
    have hzk : kOk P kt z.1 = true := List.all_eq_true.1 h5 z hzm
    obtain ⟨n, hzn⟩ := hn z hzm
    have hy2 : y = (j, .int .i64 n) := by
      obtain ⟨y1, y2⟩ := y
      simp only [] at hj g3 ⊢
      rw [hj, show y2 = .int .i64 n from by rw [← hzn]; first | exact g3 | exact g3.symm]
    have hval : e0.val = .int .i64 n := by
      have := hz1.2
      rw [hzn] at this
      generalize e0.val = vv at this
      cases this; rfl
    have hkv := run_keyStays (P := P) (w := w) hk hzk g4 hu hz1.1
    have hkey : e0.key = uk := keyEq hk hzk g4 hu hz1.1
    refine .inr ⟨j, e0, n, by rw [hy2], by rw [← Array.getElem?_toList]; exact he0, hval, hkey, fun w' => ?_, fun w' => run_keyStays hk hzk g4 hu hz1.1, ?_⟩
    · obtain ⟨r, hr, hf⟩ := run_findKey (w := w') hk hu h2 h5
      unfold Found at hf
      rw [hm] at hf
      obtain ⟨u, hu1, hu2⟩ := hf
      rw [hy2] at hu1 hu2
      cases hu2
      rw [hr, hu1, hval]
    · simp only [mapPut, hm, hy2]
theorem MapG.lookup (h : MapG P kt w b es) (hn : numsOk es) (ht : P.underlying t = some (.map kt et)) (hz : (zeroValue et).run P w = .ok (.int .i64 0) w) {k : AVal} (hk : kOk P kt k = true) {uk : Value} (hu : Rep Gh.none w false k uk) :
    (Instr.lookup t (.map (some b)) uk false).run P w = .ok (.int .i64 ((lookN k es).getD 0)) w ∧
    (Instr.lookup t (.map (some b)) uk true).run P w = .ok (.tuple #[.int .i64 ((lookN k es).getD 0), .bool (lookN k es).isSome]) w := by
  obtain ⟨ents, clock, h1, hck, hf⟩ := h.find hn hk hu
  have hg : (getObj b).run P w = .ok (.map ents clock) w := by simp [getObj, Sem.run, h1]
  have hck' : ∀ e, (Instr.checkKey e 10000 kt uk).run P w = .ok () w := fun e => by cases e; exact (hck w).1; exact (hck w).2
  rcases hf with ⟨f1, f2⟩ | ⟨j, e0, n, f1, f2, f3, f4, f5, _⟩
  · simp [lookN, f1, Instr.lookup, run_underlying ht, hg, hck', f2, hz]
  · simp [lookN, f1, Instr.lookup, run_underlying ht, hg, hck', f5, f3, AVal.intOf]
theorem MapG.setAt (h : MapG P kt w b es) {ents : Array MapEntry} {clock : Nat} (hb : w.heap[b]? = some (.map ents clock)) {k : AVal} {uk : Value} (hk : kOk P kt k = true) (hu : Rep Gh.none w false k uk) (n : Int) :
    (mapFind k es 0 = .none → MapG P kt { w with heap := w.heap.setIfInBounds b (.map (ents.push { key := uk, val := .int .i64 n, born := clock }) (clock + 1)) } b (mapPut k (.int .i64 n) es)) ∧
    (∀ j m, mapFind k es 0 = some (j, m) → MapG P kt { w with heap := w.heap.setIfInBounds b (.map (ents.modify j fun e => { e with key := uk, val := .int .i64 n }) clock) } b (mapPut k (.int .i64 n) es)) := by
  have hlt := h.lt
  obtain ⟨ents', clock', h1, h2, h3, h4, h5⟩ := h
  rw [hb] at h1
  cases h1
  have hx : Rep Gh.none w false (.int .i64 n) (.int .i64 n) := .int _ _ _
  refine ⟨fun hm => ?_, fun j m hm => ?_⟩
  · have e1 : mapPut k (.int .i64 n) es = es ++ [(k, .int .i64 n)] := by simp only [mapPut, hm]
    refine ⟨ents.push { key := uk, val := .int .i64 n, born := clock }, clock + 1, by simp [Array.getElem?_setIfInBounds, hlt], ?_, ?_, ?_, ?_⟩
    · rw [e1, Array.toList_push]
      exact (h2.push (e := { key := uk, val := .int .i64 n, born := clock }) hu hx).mono (Ext.none _ _ _)
    · intro e he
      rw [Array.toList_push] at he
      rcases List.mem_append.1 he with h6 | h6
      · have := h3 e h6; omega
      · simp at h6; subst h6; simp
    · rw [Array.toList_push, List.map_append, List.nodup_append]
      refine ⟨h4, by simp, fun y hy z hz => ?_⟩
      simp at hz
      subst hz
      obtain ⟨e, he, rfl⟩ := List.mem_map.1 hy
      have := h3 e he
      omega
    · rw [e1]
      unfold keysOk at h5 ⊢
      rw [List.all_append, h5]
      simpa using hk
  · have e1 : mapPut k (.int .i64 n) es = es.set j (k, .int .i64 n) := by simp only [mapPut, hm]
    refine ⟨ents.modify j fun e => { e with key := uk, val := .int .i64 n }, clock, by simp [Array.getElem?_setIfInBounds, hlt], ?_, ?_, ?_, ?_⟩
    · rw [e1, Array.toList_modify]
      exact (h2.set hu hx j).mono (Ext.none _ _ _)
    · intro e he
      rw [Array.toList_modify] at he
      obtain ⟨i, hi⟩ := List.getElem?_of_mem he
      rw [List.getElem?_modify] at hi
      cases hq : ents.toList[i]? with
      | none => rw [hq] at hi; simp at hi
      | some e' =>
        rw [hq] at hi
        have := h3 e' (List.mem_of_getElem? hq)
        split at hi <;> simp at hi <;> subst hi <;> exact this
    · rw [Array.toList_modify]
      have : (ents.toList.modify j fun e => { e with key := uk, val := .int .i64 n }).map (·.born) = ents.toList.map (·.born) := by
        apply List.ext_getElem?
        intro i
        rw [List.getElem?_map, List.getElem?_map, List.getElem?_modify]
        cases ents.toList[i]? with
        | none => rfl
        | some e => simp only [Option.map_some]; split <;> rfl
      rw [this]; exact h4
    · rw [e1]
      unfold keysOk at h5 ⊢
      rw [List.all_eq_true] at h5 ⊢
      intro x hx
      rcases List.mem_or_eq_of_mem_set hx with h6 | h6
      · exact h5 x h6
      · rw [h6]; exact hk
/-- The world with another map in a block. -/
structure MapChg (w w' : World) (b : Nat) : Prop where
  os : w'.os = w.os
  tape : w'.tape = w.tape
  output : w'.output = w.output
  size : w'.heap.size = w.heap.size
  block : ∀ k, k ≠ b → w'.heap[k]? = w.heap[k]?
theorem MapChg.mk' (w : World) (b : Nat) (o : Obj) : MapChg w { w with heap := w.heap.setIfInBounds b o } b :=
  ⟨rfl, rfl, rfl, by simp, fun k hk => by simp only []; rw [Array.getElem?_setIfInBounds_ne (Ne.symm hk)]⟩
theorem MapChg.trans {w w1 w2 : World} {b : Nat} (h : MapChg w w1 b) (k : MapChg w1 w2 b) : MapChg w w2 b :=
  ⟨k.os.trans h.os, k.tape.trans h.tape, k.output.trans h.output, k.size.trans h.size, fun j hj => (k.block j hj).trans (h.block j hj)⟩
theorem MapG.update (h : MapG P kt w b es) (hn : numsOk es) (ht : P.underlying t = some (.map kt et)) {k : AVal} (hk : kOk P kt k = true) {uk : Value} (hu : Rep Gh.none w false k uk) (x : Int) :
    ∃ w1, (Instr.mapUpdate t (.map (some b)) uk (.int .i64 x)).run P w = .ok () w1 ∧ MapG P kt w1 b (mapPut k (.int .i64 x) es) ∧ MapChg w w1 b := by
  obtain ⟨ents, clock, h1, hck, hf⟩ := h.find hn hk hu
  have hg : (getObj b).run P w = .ok (.map ents clock) w := by simp [getObj, Sem.run, h1]
  have hset : ∀ ob, (setObj b ob).run P w = .ok () { w with heap := w.heap.setIfInBounds b ob } := fun ob => by simp [setObj, Sem.run, h1]
  obtain ⟨s1, s2⟩ := h.setAt h1 hk hu x
  rcases hf with ⟨f1, f2⟩ | ⟨j, e0, n, f1, f2, f3, f4, f5, f6, _⟩
  · refine ⟨_, ?_, s1 f1, MapChg.mk' _ _ _⟩
    simp [Instr.mapUpdate, run_underlying ht, hg, (hck w).1, f2, hset]
  · refine ⟨_, ?_, s2 j _ f1, MapChg.mk' _ _ _⟩
    simp [Instr.mapUpdate, run_underlying ht, hg, (hck w).1, f5, hset, f2, f6]
theorem idxBorn {ents : Array MapEntry} (hn : (ents.toList.map (·.born)).Nodup) {j : Nat} {e0 : MapEntry} (h : ents[j]? = some e0) : ents.findIdx? (fun e => ((e.born : Nat) : Int) == ((e0.born : Nat) : Int)) = some j := by
  obtain ⟨l⟩ := ents
  simp only [List.findIdx?_toArray] at hn h ⊢
  have h' : l[j]? = some e0 := by simpa using h
  clear h
  induction l generalizing j with
  | nil => simp at h'
  | cons a r ih =>
    simp only [List.map_cons, List.nodup_cons] at hn
    cases j with
    | zero =>
      simp only [List.getElem?_cons_zero, Option.some.injEq] at h'
      subst h'
      simp [List.findIdx?_cons]
    | succ j =>
      simp only [List.getElem?_cons_succ] at h'
      have hne : a.born ≠ e0.born := fun e1 => hn.1 (List.mem_map.2 ⟨e0, List.mem_of_getElem? h', e1.symm⟩)
      have hb : (((a.born : Nat) : Int) == ((e0.born : Nat) : Int)) = false := by
        simp only [beq_eq_false_iff_ne, ne_eq, Int.natCast_inj]
        exact hne
      rw [List.findIdx?_cons, hb]
      simp [ih hn.2 h']
/-- 'm[k]++', step by step: the entry is laid or found; it is written. -/
theorem MapG.entry (h : MapG P kt w b es) (hn : numsOk es) (ht : P.underlying t = some (.map kt et)) (hz : ∀ w', (zeroValue et).run P w' = .ok (.int .i64 0) w') {k : AVal} (hk : kOk P kt k = true) {uk : Value} (hu : Rep Gh.none w false k uk) (x : Int) :
    ∃ st w1 w2, (Instr.mapEntry t (.map (some b)) uk).run P w = .ok (.tuple #[.int .i64 ((lookN k es).getD 0), goInt st]) w1 ∧
      (Instr.lookup t (.map (some b)) uk false).run P w1 = .ok (.int .i64 ((lookN k es).getD 0)) w1 ∧
      (Instr.entryStore t (.map (some b)) (goInt st) (.int .i64 x)).run P w1 = .ok () w2 ∧ MapG P kt w2 b (mapPut k (.int .i64 x) es) ∧ MapChg w w1 b ∧ MapChg w1 w2 b := by
  have hlt := h.lt
  have h' := h
  obtain ⟨ents0, clock0, g1, g2, g3, g4, g5⟩ := h'
  obtain ⟨ents, clock, h1, hck, hf⟩ := h.find hn hk hu
  rw [g1] at h1
  cases h1
  have hg : (getObj b).run P w = .ok (.map ents0 clock0) w := by simp [getObj, Sem.run, g1]
  have hset : ∀ ob, (setObj b ob).run P w = .ok () { w with heap := w.heap.setIfInBounds b ob } := fun ob => by simp [setObj, Sem.run, g1]
  obtain ⟨s1, s2⟩ := h.setAt g1 hk hu x
  obtain ⟨z1, z2⟩ := h.setAt g1 hk hu 0
  rcases hf with ⟨f1, f2⟩ | ⟨j, e0, n, f1, f2, f3, f4, f5, f6, f7⟩
  · have hz1 := z1 f1
    have hb1 : ({ w with heap := w.heap.setIfInBounds b (.map (ents0.push { key := uk, val := .int .i64 0, born := clock0 }) (clock0 + 1)) } : World).heap[b]? = some (.map (ents0.push { key := uk, val := .int .i64 0, born := clock0 }) (clock0 + 1)) := by
      simp [Array.getElem?_setIfInBounds, hlt]
    have hput : mapPut k (.int .i64 0) es = es ++ [(k, .int .i64 0)] := by simp only [mapPut, f1]
    have hl0 : lookN k es = .none := by simp only [lookN, f1, Option.map_none]
    have hn1 : numsOk (mapPut k (.int .i64 0) es) := by
      rw [hput]
      intro y hy
      rcases List.mem_append.1 hy with h6 | h6
      · exact hn y h6
      · simp at h6; subst h6; exact ⟨0, rfl⟩
    have hu1 := Rep.mono (Ext.none w { w with heap := w.heap.setIfInBounds b (.map (ents0.push { key := uk, val := .int .i64 0, born := clock0 }) (clock0 + 1)) } false) hu
    have hlook := (hz1.lookup hn1 ht (hz _) hk hu1).1
    have hl1 : (lookN k (mapPut k (.int .i64 0) es)).getD 0 = 0 := by
      unfold lookN
      cases hm : mapFind k (mapPut k (.int .i64 0) es) 0 with
      | none => rfl
      | some y =>
        have := mapFind_spec k (mapPut k (.int .i64 0) es) 0
        rw [hm] at this
        obtain ⟨j, z, q1, q2, q3, q4⟩ := this
        rw [hput] at q2
        rcases Nat.lt_or_ge j es.length with hj | hj
        · rw [List.getElem?_append_left hj] at q2
          have := mapFind_miss k es 0 f1 z (List.mem_of_getElem? q2)
          rw [this] at q4; cases q4
        · rw [List.getElem?_append_right hj] at q2
          have : z = (k, .int .i64 0) := by
            rcases hjj : j - es.length with _ | m
            · rw [hjj] at q2; simp at q2; exact q2.symm
            · rw [hjj] at q2; simp at q2
          subst this
          simp only [Option.map_some, Option.getD_some]
          have : y.2 = .int .i64 0 := by first | exact q3 | exact q3.symm
          rw [this]; rfl
    rw [hl1] at hlook
    have hidx : (ents0.push { key := uk, val := .int .i64 0, born := clock0 }).findIdx? (fun e => ((e.born : Nat) : Int) == ((clock0 : Nat) : Int)) = some ents0.size := by
      refine idxBorn (e0 := { key := uk, val := .int .i64 0, born := clock0 }) ?_ (by simp)
      rw [Array.toList_push, List.map_append, List.nodup_append]
      refine ⟨g4, by simp, fun y hy z hz => ?_⟩
      simp at hz
      subst hz
      obtain ⟨e, he, rfl⟩ := List.mem_map.1 hy
      have := g3 e he
      omega
    have hmod : (ents0.push { key := uk, val := .int .i64 0, born := clock0 }).modify ents0.size (fun e => { e with val := .int .i64 x }) = ents0.push { key := uk, val := .int .i64 x, born := clock0 } := by
      apply Array.ext'
      rw [Array.toList_modify, Array.toList_push, Array.toList_push, ← Array.length_toList, modLast]
    refine ⟨clock0, { w with heap := w.heap.setIfInBounds b (.map (ents0.push { key := uk, val := .int .i64 0, born := clock0 }) (clock0 + 1)) }, { w with heap := w.heap.setIfInBounds b (.map (ents0.push { key := uk, val := .int .i64 x, born := clock0 }) (clock0 + 1)) }, ?_, ?_, ?_, s1 f1, MapChg.mk' _ _ _, ?_⟩
    · rw [hl0]
      simp [Instr.mapEntry, run_underlying ht, hg, (hck w).1, f2, hset, hz]
    · rw [hl0]; exact hlook
    · have hg1 : (getObj b).run P { w with heap := w.heap.setIfInBounds b (.map (ents0.push { key := uk, val := .int .i64 0, born := clock0 }) (clock0 + 1)) } = .ok (.map (ents0.push { key := uk, val := .int .i64 0, born := clock0 }) (clock0 + 1)) { w with heap := w.heap.setIfInBounds b (.map (ents0.push { key := uk, val := .int .i64 0, born := clock0 }) (clock0 + 1)) } := by simp [getObj, Sem.run, hb1]
      have hset1 : ∀ ob, (setObj b ob).run P { w with heap := w.heap.setIfInBounds b (.map (ents0.push { key := uk, val := .int .i64 0, born := clock0 }) (clock0 + 1)) } = .ok () { w with heap := w.heap.setIfInBounds b ob } := fun ob => by simp [setObj, Sem.run, hb1]
      simp [Instr.entryStore, hg1, asInt, asIntOf, goInt, hidx, hmod, hset1]
    · exact ⟨rfl, rfl, rfl, by simp, fun k hk => by simp only []; rw [Array.getElem?_setIfInBounds_ne (Ne.symm hk), Array.getElem?_setIfInBounds_ne (Ne.symm hk)]⟩
  · have hl0 : lookN k es = some n := by simp only [lookN, f1, Option.map_some, AVal.intOf]
    have hsame : ents0.modify j (fun e => { e with key := uk }) = ents0 := by
      apply Array.ext'
      have f2' : ents0.toList[j]? = some e0 := by rw [Array.getElem?_toList]; exact f2
      rw [Array.toList_modify, modSet _ _ _ _ f2']
      have : ({ e0 with key := uk } : MapEntry) = e0 := by rw [← f4]
      rw [this]
      exact setSelf _ _ _ f2'
    have hw : ({ w with heap := w.heap.setIfInBounds b (.map ents0 clock0) } : World) = w := by
      have : w.heap.setIfInBounds b (.map ents0 clock0) = w.heap := by
        apply Array.ext_getElem?
        intro i
        by_cases hi : b = i
        · subst hi; rw [g1]; simp [Array.getElem?_setIfInBounds, hlt]
        · rw [Array.getElem?_setIfInBounds_ne hi]
      rw [this]
    have hmod : ents0.modify j (fun e => { e with val := .int .i64 x }) = ents0.modify j (fun e => { e with key := uk, val := .int .i64 x }) := by
      apply Array.ext'
      have f2' : ents0.toList[j]? = some e0 := by rw [Array.getElem?_toList]; exact f2
      rw [Array.toList_modify, Array.toList_modify, modSet _ _ _ _ f2', modSet _ _ _ _ f2', ← f4]
    refine ⟨e0.born, w, { w with heap := w.heap.setIfInBounds b (.map (ents0.modify j fun e => { e with key := uk, val := .int .i64 x }) clock0) }, ?_, ?_, ?_, s2 j _ f1, ⟨rfl, rfl, rfl, rfl, fun _ _ => rfl⟩, MapChg.mk' _ _ _⟩
    · rw [hl0]
      simp [Instr.mapEntry, run_underlying ht, hg, (hck w).1, f5, hset, f2, f6, hsame, hw, f3]
    · exact (h.lookup hn ht (hz _) hk hu).1
    · simp [Instr.entryStore, hg, asInt, asIntOf, goInt, idxBorn g4 f2, hmod, hset]
theorem MapG.len (h : MapG P kt w b es) (ht : P.underlying t = some (.map kt et)) (ty : TypeId) : (Builtin.len_ #[t] ty #[.map (some b)]).run P w = .ok (.int .i64 es.length) w := by
  obtain ⟨ents, clock, h1, h2, _⟩ := h
  have hg : (getObj b).run P w = .ok (.map ents clock) w := by simp [getObj, Sem.run, h1]
  have hl : es.length = ents.size := by rw [h2.1]; simp
  simp [Builtin.len_, run_underlying ht, hg, hl]
  rfl
end
end Go.AL
