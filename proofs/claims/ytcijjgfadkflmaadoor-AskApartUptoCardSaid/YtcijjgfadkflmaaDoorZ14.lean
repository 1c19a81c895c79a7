/-
  The texts Tf of this seat, one behind the other.
-/
import Derived.Test.YtcijjgfadkflmaaDoorZ13
import Derived.Defers
import Derived.Recover
import Derived.Tactics
import Derived.Tactics2
import Derived.Laws.Pointers
import Derived.Laws.Tables
import Derived.Laws.Rows
import Derived.WalkKit
import Derived.WalkSmall
import Derived.BigRegion

section
namespace Go.Proofs
open Go.RowKit Go.AL YtcijjgfadkflmaaDoor
set_option linter.unusedSimpArgs false
set_option linter.unusedVariables false
set_option maxHeartbeats 4000000
set_option maxRecDepth 1000000
abbrev zA : Array Value := #[.int .i64 0, .int .i64 0, .bool false, .bool false, .int .i64 0, .int .i64 0, .int .i64 0, .int .i64 0, .int .i64 0, .string ⟨#[]⟩, .string ⟨#[]⟩, .slice none 0 0, .slice none 0 0, .int .i64 0, .int .i64 0, .string ⟨#[]⟩, .int .i64 0, .int .i64 0, .string ⟨#[]⟩, .slice none 0 0, .slice none 0 0]
theorem built33 : Tryd.prog.built 33 [] = some zA := by kernel_rfl
theorem catch_panicking (pa pe : Nat) (u : TypeId) (pv : Value) (older : List PanicEntry) (w : World) (A0 : Array Value) (x : Value) (ta te : TypeId) (hA : w.heap[pa]? = some (.cells A0 ta (0, 0))) (hs : A0.size = 21) (hE : w.heap[pe]? = some (.cells #[x] te (0, 0))) (hne : pe ≠ pa) :
    CallsD Tryd.prog 14 #[.pointer (some ⟨pa, 0, none⟩), .pointer (some ⟨pe, 0, none⟩)] (.panicking ({ v := .iface u pv, recovered := false } :: older)) w fun e u' w' =>
      e = .returned (.tuple #[]) ∧ u' = .panicking ({ v := .iface u pv, recovered := true } :: older) ∧ w' = (w.setRow pa zA).setCell ⟨pe, 0, none⟩ (.int .i64 10) := by
  refine callsD_of_wpS Tryd.func14 rfl fun c₀ cs hu => ?_
  apply wpS_seq
  apply wpS_region
  simp [wpOpsS, go_sem, recoverD, hu, Tryd.ntmps14, Exit.thenS]
  refine wpS_cond (t := true) (by simp [Act.eval, Array.replicate]) ?_
  simp only [if_true]
  refine wpS_of_wp ?_
  apply wp_region_lit
  refine wpList_build rfl 33 _ rfl (by kernel_rfl) ?_
  refine wpList_store_row rfl 33 _ _ rfl pa zA (by simp [Act.eval, Act.put, Array.replicate]) (by simp [Act.eval, Act.put, Array.replicate, built33]) ta A0 hA (by rfl) hs (by simp [zA, Value.oneCell']) ?_
  have hE' : (w.setRow pa zA).heap[pe]? = some (.cells #[x] te (0, 0)) := (setRow_other w pa pe zA hne).trans hE
  have hc : (w.setRow pa zA).cell? ⟨pe, 0, none⟩ = some x := by rw [cell_of_row _ pe 0 #[x] te (0, 0) hE']; rfl
  have hz : (w.setRow pa zA).frozen? ⟨pe, 0, none⟩ = false := by simp [World.frozen?, hE']
  generalize w.setRow pa zA = W at *
  go_wp2
  simp [bodyPostS, results, Tryd.results14, go_sem]
theorem catch_idle (pa pe : Nat) (w : World) :
    CallsD Tryd.prog 14 #[.pointer (some ⟨pa, 0, none⟩), .pointer (some ⟨pe, 0, none⟩)] .returning w fun e u' w' => e = .returned (.tuple #[]) ∧ u' = .returning ∧ w' = w := by
  refine callsD_of_wpS Tryd.func14 rfl fun c₀ cs hu => ?_
  apply wpS_seq
  apply wpS_region
  simp [wpOpsS, go_sem, recoverD, hu, Tryd.ntmps14, Exit.thenS]
  refine wpS_cond (t := false) (by simp [Act.eval, Array.replicate]) ?_
  simp only [Bool.false_eq_true, if_false]
  refine wpS_of_wp (wp_skip ?_)
  cases c₀
  simp_all [bodyPostS, results, Tryd.results14]
theorem words_p (hv : EntOk Tryd.prog validE) (s : List UInt8) : PCall Tryd.prog 13 [.str s] (.tuple [.slice (strv (wordsT s).1) 1 .ro, .int .i64 (wordsT s).2]) :=
  pcall_of (.refl _) (words_c hv s) rfl rfl (by simp only [AVal.noOut, noOutL, strv_noOut, Bool.and_true]) (by simp only [AVal.noTok, noTokL, strv_noTok, Bool.and_true, Tag.below])
theorem rd_one {α : Type} {f : FuncId} {v : α → AVal} {rest : List AVal} {F : List Txt → Rd α} (hc : RdC f v rest F) (hv : ∀ x, (v x).noOut 0 = true) (hv2 : ∀ x, (v x).noTok 0 = true)
    (hr1 : noOutL 0 rest = true) (hr2 : noTokL 0 rest = true) {l : List Txt} (hl : okL l) :
    (F l = none → XPan Tryd.prog f (.ptr (.out 0) 0 :: rest) (Sto.one (.cells [.slice (strv l) 1 .ro]))) ∧
    ∀ x t, F l = some (x, t) → FCall Tryd.prog f (.ptr (.out 0) 0 :: rest) (Sto.one (.cells [.slice (strv l) 1 .ro])) (v x) (Sto.one (.cells [.slice (strv t) 1 .ro])) := by
  have c := hc l hl
  refine ⟨fun hF => XPan.ofOne (c.xpan fun r τ ⟨x, t, h, _⟩ => by rw [hF] at h; cases h) hr1 hr2 (noOut_words l) (noTok_words l) rfl, fun x t hF => ?_⟩
  have c' := c.acall (by rw [hF]; exact Bool.false_ne_true)
  have := FCall.ofOne (σ := Sto.one (.cells [.slice (strv l) 1 .ro])) (k := 0) (cs' := [.slice (strv t) 1 .ro]) (v := v x) (c'.mono fun r τ ⟨x, t, h, h1, h2⟩ => by rw [hF] at h; cases h; exact ⟨h1, h2⟩) hr1 hr2 (noOut_words l) (noTok_words l) (noOut_words t) (noTok_words t) (hv _) (hv2 _) rfl
  rw [oneSet] at this
  exact this
theorem repSlice {γ : Gh} {W : World} {l : List Txt} {v : Value} (h : Rep γ W false (.slice (strv l) 1 .ro) v) : ∃ p c, v = .slice p l.length c := by
  generalize he : strv l = es at h
  have hl : es.length = l.length := by rw [← he, strv_length]
  cases h with
  | sliceRow => exact ⟨_, _, by rw [hl]⟩
  | sliceNil => exact ⟨_, _, by rw [← hl]; rfl⟩
theorem repWords {γ : Gh} {W : World} {l : List Txt} {e : Int} {v : Value} (h : Rep γ W false (.tuple [.slice (strv l) 1 .ro, .int .i64 e]) v) : ∃ p c, v = .tuple #[.slice p l.length c, .int .i64 e] ∧ Rep γ W false (.slice (strv l) 1 .ro) (.slice p l.length c) := by
  cases h with
  | tuple h =>
    obtain ⟨sv, ev, rfl, h1, h2⟩ := repL2 h
    cases h2
    obtain ⟨p, c, rfl⟩ := repSlice h1
    exact ⟨p, c, rfl, h1⟩
theorem repL_zero (γ : Gh) (W : World) : RepL γ W false ({} : Opr).cs (zA.toList.drop 1) := by
  have hn : ∀ s, Rep γ W false (.slice [] s .ro) (.slice none 0 0) := fun s => .sliceNil trivial (.inl rfl)
  unfold Opr.cs
  exact .cons (.int _ _ _) (.cons (.bool _ _) (.cons (.bool _ _) (.cons (.int _ _ _) (.cons (.int _ _ _) (.cons (.int _ _ _) (.cons (.int _ _ _) (.cons (.int _ _ _) (.cons (.str _ _) (.cons (.str _ _) (.cons (hn _) (.cons (hn _) (.cons (.int _ _ _) (.cons (.int _ _ _) (.cons (.str _ _) (.cons (.int _ _ _) (.cons (.int _ _ _) (.cons (.str _ _) (.cons (hn _) (.cons (hn _) (.nil _))))))))))))))))))))
theorem rep_verb (γ : Gh) (W : World) (k : Int) : Rep γ W false (Ak.a ⟨k, {}⟩) (.agg (zA.setIfInBounds 0 (.int .i64 k))) := by
  have h : zA.setIfInBounds 0 (.int .i64 k) = (Value.int .i64 k :: zA.toList.drop 1).toArray := by simp [zA]
  rw [h]
  exact .agg (.cons (.int _ _ _) (repL_zero γ W)) (by simp [zA, Value.oneCell'])
def Ends (γ : Gh) (w : World) (s : Txt) (e : Ending) (w' : World) : Prop := ∃ (v : Value) (r : AVal) (γ' : Gh) (σ' : Sto), e = .returned v ∧ Rep γ' w' false r v ∧ AL.Inv γ' w' σ'.O σ'.own σ'.nobj σ'.nown ∧ Evo γ w Sto.empty.O Sto.empty.own γ' w' σ'.O σ'.own ∧ Wk r (.tuple [(parseT s).1.a, .int .i64 (parseT s).2])
theorem leave_end {γ γ1 : Gh} {w W : World} {s : Txt} {σ : Sto} {X : Nat → Prop} {pa pe : Nat} {cs : Array Value} {e : Int} {x : Ak} (H : Hold γ w γ1 W σ X) (hA : W.heap[pa]? = some (.cells cs 33 (0, 0))) (hs : cs.size = 21) (hE : W.heap[pe]? = some (.cells #[.int .i64 e] 36 (0, 0)))
    (hp : parseT s = (x, e)) (hr : Rep γ1 W false x.a (.agg cs)) (tmps : Array Value) (h2 : tmps.getD 2 undef = .pointer (some ⟨pa, 0, none⟩)) (h3 : tmps.getD 3 undef = .pointer (some ⟨pe, 0, none⟩)) :
    Leaves Tryd.prog Tryd.f8 tmps (Ends γ w s) [] .returning W := by
  have hc : W.cell? ⟨pe, 0, none⟩ = some (.int .i64 e) := by rw [cell_of_row _ _ 0 _ _ (0, 0) hE]; rfl
  have hl := run_loadVar_row (P := Tryd.prog) W pa 33 33 cs (0, 0) _ hA Tryd.underlying33 rfl (by rw [hs]; rfl)
  have h2' : tmps[2]?.getD undef = .pointer (some ⟨pa, 0, none⟩) := by simpa using h2
  have h3' : tmps[3]?.getD undef = .pointer (some ⟨pe, 0, none⟩) := by simpa using h3
  have hl2 : (loadVar 36 ⟨pe, 0, none⟩).run Tryd.prog W = .ok (.int .i64 e) W := by simp [go_sem, hc]
  refine ⟨.tuple #[.agg cs, .int .i64 e], by simp [results, Tryd.results8, h2', h3', asAddr, hl, hl2], ?_⟩
  refine H.acall (.tuple (.cons hr (.cons (.int _ _ _) (.nil _)))) ?_
  rw [hp]
  exact .refl _
theorem cellE {W : World} {n : Nat} {x : Value} {t : TypeId} (h : W.heap[n]? = some (.cells #[x] t (0, 0))) (y : Value) :
    W.cell? ⟨n, 0, none⟩ = some x ∧ W.frozen? ⟨n, 0, none⟩ = false ∧ (W.setRow n #[y]).cell? ⟨n, 0, none⟩ = some y ∧ W.setCell ⟨n, 0, none⟩ y = W.setRow n #[y] := by
  have h1 : W.cell? ⟨n, 0, none⟩ = some x := by rw [cell_of_row _ _ 0 _ _ (0, 0) h]; rfl
  exact ⟨h1, by simp [World.frozen?, h], by rw [cell_setRow_same W n 0 _ #[y] t (0, 0) h]; rfl, setCell_eq_setRow W n 0 #[x] t (0, 0) y h⟩
theorem setRow_id {W : World} {n : Nat} {cs : Array Value} {t : TypeId} {fr : Nat × Nat} (h : W.heap[n]? = some (.cells cs t fr)) : W.setRow n cs = W := by
  unfold World.setRow
  cases W with
  | mk heap tape drawn os output =>
    congr 1
    apply Array.ext
    · simp
    · intro k h1 h2
      rw [Array.getElem_modify]
      split
      · rename_i e
        subst e
        have := (Array.getElem?_eq_some_iff.1 h).2
        simp only [this]
      · rfl
theorem cellI {W : World} {n : Nat} {x : Value} {t : TypeId} (h : W.heap[n]? = some (.cells #[x] t (0, 0))) :
    W.cell? ⟨n, 0, none⟩ = some x ∧ W.frozen? ⟨n, 0, none⟩ = false ∧ W.setCell ⟨n, 0, none⟩ x = W := by
  obtain ⟨h1, h2, _, h4⟩ := cellE h x
  exact ⟨h1, h2, h4.trans (setRow_id h)⟩
theorem keeps_end (s : Txt) : ∀ (f p : Nat) (x : WSt), Keeps s f p x → (walkW s f p x).out.length ≤ 2 * s.length ∧ ∀ w ∈ (walkW s f p x).out, w.length ≤ s.length
  | 0, p, x, h => ⟨by have := h.few; have := h.le; show x.out.length ≤ _; omega, h.short⟩
  | f + 1, p, x, h => by
    by_cases hp : p < s.length
    · rw [walkW, if_pos hp]; exact keeps_end s f _ _ (h.step hp)
    · rw [walkW_end _ _ _ _ hp]; exact ⟨by have := h.few; have := h.le; omega, h.short⟩
theorem wordsT_len (s : Txt) : (wordsT s).1.length ≤ 8193 ∧ ∀ w ∈ (wordsT s).1, w.length ≤ 4096 := by
  unfold wordsT
  split
  · exact ⟨by simp, by simp⟩
  · rename_i hs
    have hk := keeps_end s _ _ _ (keeps0 s)
    simp only []
    split
    · exact ⟨by simp, by simp⟩
    · unfold WSt.fin
      split
      · refine ⟨by rw [List.length_append, List.length_singleton]; omega, fun w hw => ?_⟩
        have := short_snoc hk.2 _ _ w hw
        omega
      · exact ⟨Nat.le_trans hk.1 (by omega), fun w hw => by have := hk.2 w hw; omega⟩
theorem wordsT_ok (s : Txt) : okL (wordsT s).1 := ⟨by have := (wordsT_len s).1; omega, fun w hw => by have := (wordsT_len s).2 w hw; omega⟩
theorem hold_below {γ : Gh} {w W : World} (hi : AL.Inv γ w Sto.empty.O Sto.empty.own Sto.empty.nobj Sto.empty.nown) (hB : Below w.heap.size w W) : Hold γ w γ W Sto.empty (fun _ => False) :=
  ((Hold.start hi).out hB.os hB.tape hB.output hB.size (fun b hb _ => hB.block b hb) (fun b hb => hb.elim)).1
theorem zero_fin {γ : Gh} {w W : World} {s : Txt} {pa : Nat} {cs : Array Value} {x : Value} (hi : AL.Inv γ w Sto.empty.O Sto.empty.own Sto.empty.nobj Sto.empty.nown) (hpa : w.heap.size = pa) (hB : Below w.heap.size w W)
    (hA : W.heap[pa]? = some (.cells cs 33 (0, 0))) (hE : W.heap[pa + 1]? = some (.cells #[x] 36 (0, 0))) (hp : parseT s = ({}, 10)) (tmps : Array Value)
    (h2 : tmps.getD 2 undef = .pointer (some ⟨pa, 0, none⟩)) (h3 : tmps.getD 3 undef = .pointer (some ⟨pa + 1, 0, none⟩)) :
    Leaves Tryd.prog Tryd.f8 tmps (Ends γ w s) [] .returning ((W.setRow pa zA).setRow (pa + 1) #[.int .i64 10]) := by
  have hA2 := setRow_heap W pa _ zA 33 (0, 0) hA
  have hE2 : (W.setRow pa zA).heap[pa + 1]? = some (.cells #[x] 36 (0, 0)) := (setRow_other _ _ _ _ (by omega)).trans hE
  have hA3 := (setRow_other (W.setRow pa zA) (pa + 1) pa #[.int .i64 10] (by omega)).trans hA2
  have hE3 := setRow_heap _ (pa + 1) _ #[.int .i64 10] 36 (0, 0) hE2
  have hB2 : Below w.heap.size w ((W.setRow pa zA).setRow (pa + 1) #[.int .i64 10]) := ⟨hB.os, hB.tape, hB.output, by simpa using hB.size, fun k hk => (setRow_other _ _ _ _ (by omega)).trans ((setRow_other _ _ _ _ (by omega)).trans (hB.block k hk))⟩
  exact leave_end (hold_below hi hB2) hA3 rfl hE3 hp (rep_verb _ _ 0) tmps h2 h3
theorem pan_end {γ : Gh} {w W : World} {s : Txt} {pa : Nat} {cs : Array Value} {x : Value} {ut : TypeId} {pv : Value} (hi : AL.Inv γ w Sto.empty.O Sto.empty.own Sto.empty.nobj Sto.empty.nown) (hpa : w.heap.size = pa) (hB : Below w.heap.size w W)
    (hA : W.heap[pa]? = some (.cells cs 33 (0, 0))) (hE : W.heap[pa + 1]? = some (.cells #[x] 36 (0, 0))) (hs : cs.size = 21) (hp : parseT s = ({}, 10)) (tmps : Array Value)
    (h2 : tmps.getD 2 undef = .pointer (some ⟨pa, 0, none⟩)) (h3 : tmps.getD 3 undef = .pointer (some ⟨pa + 1, 0, none⟩)) :
    Leaves Tryd.prog Tryd.f8 tmps (Ends γ w s) [{ target := .fn (.func 14) #[.pointer (some ⟨pa, 0, none⟩), .pointer (some ⟨pa + 1, 0, none⟩)], args := #[] }] (.panicking [{ v := .iface ut pv, recovered := false }]) W := by
  refine leaves_cons (f := 14) (args := #[.pointer (some ⟨pa, 0, none⟩), .pointer (some ⟨pa + 1, 0, none⟩)]) (by simp) (by simp [go_sem]) ?_
  refine (catch_panicking pa (pa + 1) ut pv [] W cs x 33 36 hA hs hE (by omega)).mono ?_
  rintro e u' w'' ⟨rfl, rfl, rfl⟩
  have hE2 : (W.setRow pa zA).heap[pa + 1]? = some (.cells #[x] 36 (0, 0)) := (setRow_other _ _ _ _ (by omega)).trans hE
  obtain ⟨_, _, _, k4⟩ := cellE hE2 (.int .i64 10)
  rw [k4]
  exact zero_fin hi hpa hB hA hE hp tmps h2 h3
theorem idle_end {γ : Gh} {w W : World} {s : Txt} {pa : Nat} {tmps : Array Value} (h : Leaves Tryd.prog Tryd.f8 tmps (Ends γ w s) [] .returning W) : Leaves Tryd.prog Tryd.f8 tmps (Ends γ w s) [{ target := .fn (.func 14) #[.pointer (some ⟨pa, 0, none⟩), .pointer (some ⟨pa + 1, 0, none⟩)], args := #[] }] .returning W := by
  refine leaves_cons (f := 14) (args := #[.pointer (some ⟨pa, 0, none⟩), .pointer (some ⟨pa + 1, 0, none⟩)]) (by simp) (by simp [go_sem]) ?_
  refine (catch_idle pa (pa + 1) W).mono ?_
  rintro e u' w'' ⟨rfl, rfl, rfl⟩
  exact h
theorem list20 : ∀ {l : List Value}, l.length = 20 → ∃ v0 v1 v2 v3 v4 v5 v6 v7 v8 v9 v10 v11 v12 v13 v14 v15 v16 v17 v18 v19, l = [v0, v1, v2, v3, v4, v5, v6, v7, v8, v9, v10, v11, v12, v13, v14, v15, v16, v17, v18, v19]
  | [v0, v1, v2, v3, v4, v5, v6, v7, v8, v9, v10, v11, v12, v13, v14, v15, v16, v17, v18, v19], _ => ⟨_, _, _, _, _, _, _, _, _, _, _, _, _, _, _, _, _, _, _, _, rfl⟩
theorem built33op {vs : List Value} (h : vs.length = 20) : Tryd.prog.built 33 [(0, .int .i64 4), (1, .agg vs.toArray)] = some (Value.int .i64 4 :: vs).toArray := by
  obtain ⟨v0, v1, v2, v3, v4, v5, v6, v7, v8, v9, v10, v11, v12, v13, v14, v15, v16, v17, v18, v19, rfl⟩ := list20 h
  kernel_rfl
theorem wpList_buildTo {P : Program} {ops : Array Oper} {rest : List Oper} {o : Oper} {a : Act} {w : World} {Q : Exit → Act → World → Prop} (hg : o.guard = none) (t : TypeId) (parts : Array (Nat × Operand)) (ho : o.op = .build t parts) (dst : Option Tmp) (hdst : o.dst = dst) (cells : Array Value)
    (hf : P.built t (parts.map fun (i, x) => (i, a.eval x)).toList = some cells) (h : wpList P ops Q rest (a.put dst (.agg cells)) w) : wpList P ops Q (o :: rest) a w := by
  subst hdst
  exact wpList_build hg t parts ho (by rw [hf]; rfl) (by rw [hf]; exact h)
theorem repOpr {γ : Gh} {W : World} {o : Opr} {v : Value} (h : Rep γ W false (Opr.a o) v) : ∃ vs : List Value, v = .agg vs.toArray ∧ RepL γ W false o.cs vs ∧ (∀ v ∈ vs, v.oneCell' = true) ∧ vs.length = 20 := by
  unfold Opr.a at h
  cases h with
  | agg h h1 => exact ⟨_, rfl, h, h1, by rw [← h.length]; rfl⟩
def verbT (x : Txt) : Int := if x = wBegin then 1 else if x = wCommit then 2 else if x = wAbort then 3 else 0
theorem askW_cons (x : Txt) (t : List Txt) : askW (x :: t) = if verbT x = 0 then (match rOp x t with | some (o, []) => some ⟨4, o⟩ | _ => none) else if t = [] then some ⟨verbT x, {}⟩ else none := by
  unfold askW verbT
  by_cases h1 : x = wBegin
  · simp [h1]
  · by_cases h2 : x = wCommit
    · simp [h1, h2, show ¬ wCommit = wBegin by decide]
    · by_cases h3 : x = wAbort
      · simp [h1, h2, h3, show ¬ wAbort = wBegin by decide, show ¬ wAbort = wCommit by decide]
      · simp [h1, h2, h3]; rfl
theorem bytes_eq (l x : Txt) : (ByteArray.mk l.toArray = ⟨x.toArray⟩) ↔ l = x := by
  constructor
  · intro h
    have := congrArg (fun b => b.data.toList) h
    simpa using this
  · rintro rfl; rfl
theorem verb_wrap (x : Txt) : IntKind.i64.wrap (1 + Lib.idxOfS (List.take 3 [⟨#[98, 101, 103, 105, 110]⟩, ⟨#[99, 111, 109, 109, 105, 116]⟩, ⟨#[97, 98, 111, 114, 116]⟩]) ⟨x.toArray⟩) = verbT x := by
  have e1 : (ByteArray.mk #[98, 101, 103, 105, 110] = ⟨x.toArray⟩) = (x = wBegin) := propext ((bytes_eq wBegin x).trans eq_comm)
  have e2 : (ByteArray.mk #[99, 111, 109, 109, 105, 116] = ⟨x.toArray⟩) = (x = wCommit) := propext ((bytes_eq wCommit x).trans eq_comm)
  have e3 : (ByteArray.mk #[97, 98, 111, 114, 116] = ⟨x.toArray⟩) = (x = wAbort) := propext ((bytes_eq wAbort x).trans eq_comm)
  simp only [Lib.idxOfS, List.take, Lib.idxFromS, verbT, e1, e2, e3]
  split
  · decide
  · split
    · decide
    · split
      · decide
      · decide
theorem bw_u8 (l : List UInt8) : (bw l).all isU8 = true := by
  rw [List.all_eq_true]
  intro x hx
  simp only [bw, List.mem_map] at hx
  obtain ⟨b, _, rfl⟩ := hx
  rfl
theorem parse_c (hv : EntOk Tryd.prog validE) (s : List UInt8) (hs : s.length ≤ 100000000000000) : ACall Tryd.prog 8 [.slice (bw s) 1 .ro] Sto.empty fun r _ => Wk r (.tuple [(parseT s).1.a, .int .i64 (parseT s).2]) := by
  intro γ w vs hi hr
  obtain ⟨u, rfl, hu⟩ := repL1 hr
  have H0 := Hold.start hi
  obtain ⟨w1, hw1⟩ : ∃ w1, w1 = (w.alloc (.cells zA 33)).alloc (.cells #[.int .i64 0] 36) := ⟨_, rfl⟩
  have hsz : w1.heap.size = w.heap.size + 2 := by rw [hw1]; simp
  have hB1 : Below w.heap.size w w1 := by
    rw [hw1]
    exact ((Below.refl _ w).alloc (Nat.le_refl _) _).alloc (by simp) _
  obtain ⟨H1, E1⟩ := H0.out (w' := w1) (X' := fun b => b = w.heap.size ∨ b = w.heap.size + 1) hB1.os hB1.tape hB1.output hB1.size (fun b hb _ => hB1.block b hb) (fun b hb => .inr (by rcases hb with rfl | rfl <;> omega))
  have hA1 : w1.heap[w.heap.size]? = some (.cells zA 33 (0, 0)) := by rw [hw1]; exact (((Below.refl _ (w.alloc (.cells zA 33))).alloc (Nat.le_refl _) _).block _ (by simp)).trans (heap_alloc_new w _)
  have hE1 : w1.heap[w.heap.size + 1]? = some (.cells #[.int .i64 0] 36 (0, 0)) := by rw [hw1]; exact (congrArg (fun n => ((w.alloc (.cells zA 33)).alloc (.cells #[.int .i64 0] 36)).heap[n]?) (by simp)).trans (heap_alloc_new (w.alloc (.cells zA 33)) _)
  have hcv : (convert 42 9 u).run Tryd.prog w1 = .ok (.string ⟨s.toArray⟩) w1 := by
    have hcA : convA Tryd.prog (fun _ => none) 42 9 (.slice (bw s) 1 .ro) = some (decide ((bw s).all isU8 = true), .str ((bw s).map AL.byteOf)) := by
      have h0 : (isBytes Tryd.prog 42 && isStr Tryd.prog 9) = true := by kernel_rfl
      simp only [convA, h0, if_true]
    obtain ⟨v, h1, h2⟩ := convA_sound (P := Tryd.prog) (lk := fun _ => none) ⟨fun _ _ h => by cases h⟩ ((hu.mono E1).weaken true) hcA (decide_eq_true (bw_u8 s))
    rw [map_byteOf_bw] at h2
    cases h2
    exact h1
  have hword := H1.call (words_p hv s _) (vs := [.string ⟨s.toArray⟩]) (.cons (.str _ _) (.nil _))
  go_enter_defers Tryd.func8, Tryd.ntmps8
  go_wp2_with (go_at_call 13; fail)
  rw [← hw1, hcv]
  clear hw1 hcv
  by_cases he : (wordsT s).2 = 0
  · rw [he] at hword
    go_wp2_with (go_at_call 13; refine hword.mono ?_; rintro e W ⟨v, r, γ1, τ, rfl, hrep, ⟨rfl, rfl⟩, H2, E2, hX, hsz2⟩; obtain ⟨sp, sc, rfl, hsv⟩ := repWords hrep; have hA2 := (hX _ (.inl rfl)).trans hA1; have hE2 := (hX _ (.inr rfl)).trans hE1; obtain ⟨hcE, hfE, hs2⟩ := cellI hE2)
    have hok := wordsT_ok s
    have hpt : parseT s = (match askW (wordsT s).1 with | some x => (x, 0) | none => ({}, 10)) := by unfold parseT; rw [if_neg (by simp [he])]; rfl
    generalize (wordsT s).1 = l at *
    have hneA : w.heap.size ≠ W.heap.size := by omega
    have hneE : w.heap.size + 1 ≠ W.heap.size := by omega
    have hb5 : Below W.heap.size W (W.alloc (.cells #[.slice sp l.length sc] 56)) := (Below.refl _ _).alloc (Nat.le_refl _) _
    obtain ⟨H5, E5⟩ := H2.out (w' := W.alloc (.cells #[.slice sp l.length sc] 56)) (X' := fun b => (b = w.heap.size ∨ b = w.heap.size + 1) ∨ b = W.heap.size) rfl rfl rfl hb5.size (fun b hb _ => hb5.block b hb) (fun b hb => by
      rcases hb with hb | rfl
      · exact .inl hb
      · exact .inr ⟨Nat.le_refl _, by simp⟩)
    obtain ⟨γ2, H6, hobj, himm⟩ := H5.one (R := W.heap.size) (.inr rfl) (cs := [.slice (strv l) 1 .ro]) (vs := [.slice sp l.length sc]) (heap_alloc_new W _) (.cons (hsv.mono E5) (.nil _)) (by simp [Value.oneCell']) (noOut_words l) (noTok_words l)
    have hargs : RepL γ2 (W.alloc (.cells #[.slice sp l.length sc] 56)) false [.ptr (.out 0) 0] [.pointer (some ⟨W.heap.size, 0, none⟩)] := .cons (.ptr hobj (.inr rfl)) (.nil _)
    have hA5 := (hb5.block w.heap.size (by omega)).trans hA2
    have hE5 := (hb5.block (w.heap.size + 1) (by omega)).trans hE2
    have hsz5 : W.heap.size + 1 ≤ (W.alloc (.cells #[.slice sp l.length sc] 56)).heap.size := by simp
    obtain ⟨hwp, hwc⟩ := rd_one word_c (fun _ => rfl) (fun _ => rfl) rfl rfl hok
    generalize W.alloc (.cells #[.slice sp l.length sc] 56) = W5 at *
    cases hw : rWord l with
    | none =>
      have hask : askW l = none := by
        cases l with
        | nil => rfl
        | cons a b => cases hw
      rw [hask] at hpt
      refine (H6.pan (hwp hw) hargs).mono ?_
      rintro e W6 ⟨ut, pv, rfl, hbel, hX6, hsz6⟩
      have hA6 := (hX6 _ ⟨.inl (.inl rfl), hneA⟩).trans hA5
      have hE6 := (hX6 _ ⟨.inl (.inr rfl), hneE⟩).trans hE5
      go_wp2
      exact pan_end hi rfl hbel hA6 hE6 rfl hpt _ rfl rfl
    | some y =>
      obtain ⟨x, t⟩ := y
      refine (H6.call (hwc x t hw) hargs).mono ?_
      rintro e W6 ⟨v, r, γ3, τ, rfl, hrep, ⟨rfl, rfl⟩, H7, E7, hX6, hsz6⟩
      cases hrep
      have hA6 := (hX6 _ ⟨.inl (.inl rfl), hneA⟩).trans hA5
      have hE6 := (hX6 _ ⟨.inl (.inr rfl), hneE⟩).trans hE5
      have hobj3 := E7.obj (.out 0) _ (.inr rfl) hobj
      obtain ⟨vs, T, hcell, hrv⟩ := H7.cell hobj3
      obtain ⟨tv, rfl, htv⟩ := repL1 hrv
      obtain ⟨tp, tc, rfl⟩ := repSlice htv
      obtain ⟨htl, hcons⟩ : l = x :: t ∧ True := by
        cases l with
        | nil => cases hw
        | cons a b => simp only [rWord, Option.some.injEq, Prod.mk.injEq] at hw; exact ⟨by rw [hw.1, hw.2], trivial⟩
      go_wp2_with (go_at_call 16; fail)
      have hb7 : Below W6.heap.size W6 (W6.alloc (.cells #[.string ⟨#[98, 101, 103, 105, 110]⟩, .string ⟨#[99, 111, 109, 109, 105, 116]⟩, .string ⟨#[97, 98, 111, 114, 116]⟩] 9)) := (Below.refl _ _).alloc (Nat.le_refl _) _
      have hN7 := heap_alloc_new W6 (.cells #[.string ⟨#[98, 101, 103, 105, 110]⟩, .string ⟨#[99, 111, 109, 109, 105, 116]⟩, .string ⟨#[97, 98, 111, 114, 116]⟩] 9)
      generalize W6.alloc (.cells #[.string ⟨#[98, 101, 103, 105, 110]⟩, .string ⟨#[99, 111, 109, 109, 105, 116]⟩, .string ⟨#[97, 98, 111, 114, 116]⟩] 9) = W7 at *
      refine (Tryd.slices_Index_string W6.heap.size 0 3 3 [⟨#[98, 101, 103, 105, 110]⟩, ⟨#[99, 111, 109, 109, 105, 116]⟩, ⟨#[97, 98, 111, 114, 116]⟩] ⟨x.toArray⟩ W7 (by simp) (by omega) (fun j hj => by
        rw [cell_of_row _ _ _ _ _ (0, 0) hN7]
        have : j = 0 ∨ j = 1 ∨ j = 2 := by simp at hj; omega
        rcases this with rfl | rfl | rfl <;> rfl)).mono ?_
      rintro e W7 ⟨rfl, rfl⟩
      have hwr := verb_wrap x
      generalize Lib.idxOfS (List.take 3 [⟨#[98, 101, 103, 105, 110]⟩, ⟨#[99, 111, 109, 109, 105, 116]⟩, ⟨#[97, 98, 111, 114, 116]⟩]) ⟨x.toArray⟩ = j at *
      have hask := askW_cons x t
      generalize verbT x = k at *
      have hA7 := (hb7.block w.heap.size (by omega)).trans hA6
      have hE7 := (hb7.block (w.heap.size + 1) (by omega)).trans hE6
      have hR7 := (hb7.block W.heap.size (by omega)).trans hcell
      have hsz7 := hb7.size
      generalize W.heap.size = rp at *
      generalize hpa : w.heap.size = pa at *
      have c1 : W7.cell? ⟨pa, 0, none⟩ = some (.int .i64 0) := by rw [cell_of_row _ _ 0 _ _ (0, 0) hA7]; rfl
      have c2 : W7.frozen? ⟨pa, 0, none⟩ = false := by simp [World.frozen?, hA7]
      have c3 := setCell_eq_setRow W7 pa 0 zA 33 (0, 0) (.int .i64 k) hA7
      have c4 : (W7.setRow pa (zA.setIfInBounds 0 (.int .i64 k))).cell? ⟨pa, 0, none⟩ = some (.int .i64 k) := by rw [cell_setRow_same W7 pa 0 _ _ 33 (0, 0) hA7]; rfl
      have hA8 := setRow_heap W7 pa _ (zA.setIfInBounds 0 (.int .i64 k)) 33 (0, 0) hA7
      have hE8 := (setRow_other W7 pa (pa + 1) (zA.setIfInBounds 0 (.int .i64 k)) (by omega)).trans hE7
      have hR8 := (setRow_other W7 pa rp (zA.setIfInBounds 0 (.int .i64 k)) (by omega)).trans hR7
      have hb8 : ∀ b, b < W6.heap.size → b ≠ pa → (W7.setRow pa (zA.setIfInBounds 0 (.int .i64 k))).heap[b]? = W6.heap[b]? := fun b h1 h2 => (setRow_other _ _ _ _ h2).trans (hb7.block b h1)
      obtain ⟨H8, E8⟩ := H7.out (w' := W7.setRow pa (zA.setIfInBounds 0 (.int .i64 k))) (X' := fun b => b = pa ∨ b = pa + 1) hb7.os hb7.tape hb7.output (by simpa using hsz7) (fun b hb hx => hb8 b hb (fun e => hx ⟨.inl (.inl e), by omega⟩)) (fun b hb => .inl ⟨.inl hb, by omega⟩)
      have htv8 := htv.mono E8
      generalize W7.setRow pa (zA.setIfInBounds 0 (.int .i64 k)) = W8 at *
      have r1 : W8.cell? ⟨rp, 0, none⟩ = some (.slice tp t.length tc) := by rw [cell_of_row _ _ 0 _ _ (0, 0) hR8]; rfl
      obtain ⟨cs8, hcs8, hs8, h18⟩ : ∃ cs8, cs8 = zA.setIfInBounds 0 (.int .i64 k) ∧ cs8.size = 21 ∧ cs8.all (·.oneCell') = true := ⟨_, rfl, by simp [zA], by rw [show zA.setIfInBounds 0 (.int .i64 k) = (Value.int .i64 k :: zA.toList.drop 1).toArray by simp [zA]]; simp [zA, Value.oneCell']⟩
      have hrv8 := rep_verb γ3 W8 k
      rw [← hcs8] at hA8 hrv8
      clear hcs8
      rw [htl, hask] at hpt
      by_cases hk : k = 0
      · subst hk
        rw [if_pos rfl] at hpt
        go_wp2_with (go_at_call 17; fail)
        obtain ⟨hop1, hop2⟩ := rd_one (op_c x) (fun o => by simp only [Opr.a, Opr.cs, AVal.noOut, noOutL, prv_noOut, strv_noOut, ndv_noOut, lkv_noOut, Bool.and_self]) (fun o => by simp only [Opr.a, Opr.cs, AVal.noTok, noTokL, prv_noTok, strv_noTok, ndv_noTok, lkv_noTok, Tag.below, Bool.and_self]) rfl rfl (hok.suf (by rw [htl]; exact List.suffix_cons _ _) : okL t)
        have hargs8 : RepL γ3 W8 false [.ptr (.out 0) 0, .str x] [.pointer (some ⟨rp, 0, none⟩), .string ⟨x.toArray⟩] := .cons (.ptr (E8.obj (.out 0) _ (.inr rfl) hobj3) (.inr rfl)) (.cons (.str _ _) (.nil _))
        cases hop : rOp x t with
        | none =>
          rw [hop] at hpt
          refine (H8.pan (hop1 hop) hargs8).mono ?_
          rintro e W9 ⟨ut, pv, rfl, hbel, hX9, hsz9⟩
          have hA9 := (hX9 _ (.inl rfl)).trans hA8
          have hE9 := (hX9 _ (.inr rfl)).trans hE8
          go_wp2
          exact pan_end hi hpa hbel hA9 hE9 hs8 hpt _ rfl rfl
        | some y =>
          obtain ⟨o, q⟩ := y
          rw [hop] at hpt
          refine (H8.call (hop2 o q hop) hargs8).mono ?_
          rintro e W9 ⟨v, r, γ4, τ, rfl, hrep, ⟨rfl, rfl⟩, H9, E9, hX9, hsz9⟩
          obtain ⟨vs, rfl, hvs, hv1, hvl⟩ := repOpr hrep
          have hA9 := (hX9 _ (.inl rfl)).trans hA8
          have hE9 := (hX9 _ (.inr rfl)).trans hE8
          obtain ⟨vs9, T9, hcell9, hrv9⟩ := H9.cell (E9.obj (.out 0) _ (.inr rfl) (E8.obj (.out 0) _ (.inr rfl) hobj3))
          obtain ⟨qv, rfl, hqv⟩ := repL1 hrv9
          obtain ⟨qp, qc, rfl⟩ := repSlice hqv
          obtain ⟨csv, hcsv, hsv, h1v⟩ : ∃ csv, csv = (Value.int .i64 4 :: vs).toArray ∧ csv.size = 21 ∧ csv.all (·.oneCell') = true := ⟨_, rfl, by simp [hvl], by simpa [Value.oneCell'] using hv1⟩
          have hbu : Tryd.prog.built 33 [(0, .int .i64 4), (1, .agg vs.toArray)] = some csv := (built33op hvl).trans (by rw [hcsv])
          have hA10 := setRow_heap W9 pa _ csv 33 (0, 0) hA9
          have hE10 := (setRow_other W9 pa (pa + 1) csv (by omega)).trans hE9
          have hR10 := (setRow_other W9 pa rp csv (by omega)).trans hcell9
          obtain ⟨H10, E10⟩ := H9.out (w' := W9.setRow pa csv) (X' := fun b => b = pa ∨ b = pa + 1) rfl rfl rfl (by simp) (fun b hb hx => setRow_other _ _ _ _ (fun e => hx (.inl e))) (fun b hb => .inl hb)
          have hro : Rep γ4 (W9.setRow pa csv) false (Ak.a ⟨4, o⟩) (.agg csv) := by
            have h2 : Rep γ4 (W9.setRow pa csv) false (.agg (.int .i64 4 :: o.cs)) (.agg (Value.int .i64 4 :: vs).toArray) := .agg (.cons (.int _ _ _) (hvs.mono E10)) (by intro v hv; rcases List.mem_cons.1 hv with rfl | hv; rfl; exact hv1 v hv)
            rw [← hcsv] at h2
            exact h2
          have r2 : (W9.setRow pa csv).cell? ⟨rp, 0, none⟩ = some (.slice qp q.length qc) := by rw [cell_of_row _ _ 0 _ _ (0, 0) hR10]; rfl
          clear hcsv
          generalize hW10 : W9.setRow pa csv = W10 at *
          cases q with
          | nil =>
            obtain ⟨e1, e2, e3⟩ := cellI hE10
            have hid := setRow_id hA10
            go_wp2_with (first | (refine wpList_buildTo rfl 33 #[(0, .const (.int .i64 4)), (1, .tmp 33)] rfl _ rfl csv (by simp [Act.eval, hbu]) ?_; try go_simp) | (refine wpList_store_row rfl 33 (.tmp 2) (.tmp 34) rfl pa csv rfl rfl 33 cs8 hA9 (by rw [hsv]; rfl) (by rw [hs8, hsv]) h1v ?_; rw [hW10]; try go_simp) | (refine wpList_load_row rfl 33 (.tmp 2) rfl pa rfl 33 csv (0, 0) _ hA10 Tryd.underlying33 rfl (by rw [hsv]; rfl) ?_; try go_simp) | (refine wpList_store_row rfl 33 (.tmp 2) (.tmp 42) rfl pa csv rfl rfl 33 csv hA10 (by rw [hsv]; rfl) rfl h1v ?_; rw [hid]; try go_simp))
            exact idle_end (leave_end H10 hA10 hsv hE10 (by rw [hpt] <;> rfl) hro _ rfl rfl)
          | cons t1 t2 =>
            have hE11 := (setRow_other W10 pa (pa + 1) zA (by omega)).trans hE10
            obtain ⟨e1, e2, _, e3⟩ := cellE hE11 (.int .i64 10)
            go_wp2_with (first | (refine wpList_buildTo rfl 33 #[(0, .const (.int .i64 4)), (1, .tmp 33)] rfl _ rfl csv (by simp [Act.eval, hbu]) ?_; try go_simp) | (refine wpList_store_row rfl 33 (.tmp 2) (.tmp 34) rfl pa csv rfl rfl 33 cs8 hA9 (by rw [hsv]; rfl) (by rw [hs8, hsv]) h1v ?_; rw [hW10]; try go_simp) | (refine wpList_store_row rfl 33 (.tmp 2) (.tmp 41) rfl pa zA rfl rfl 33 csv hA10 rfl hsv (by simp [zA, Value.oneCell']) ?_; try go_simp))
            exact idle_end (zero_fin hi hpa H10.below hA10 hE10 (by rw [hpt] <;> rfl) _ rfl rfl)
      · rw [if_neg hk] at hpt
        cases t with
        | nil =>
          obtain ⟨e1, e2, e3⟩ := cellI hE8
          have hid := setRow_id hA8
          go_wp2_with (first | (refine wpList_load_row rfl 33 (.tmp 2) rfl pa rfl 33 cs8 (0, 0) _ hA8 Tryd.underlying33 rfl (by rw [hs8]; rfl) ?_; try go_simp) | (refine wpList_store_row rfl 33 (.tmp 2) (.tmp 42) rfl pa cs8 rfl rfl 33 cs8 hA8 (by rw [hs8]; rfl) rfl h18 ?_; rw [hid]; try go_simp))
          exact idle_end (leave_end H8 hA8 hs8 hE8 (by rw [hpt] <;> rfl) hrv8 _ rfl rfl)
        | cons t1 t2 =>
          have hE11 := (setRow_other W8 pa (pa + 1) zA (by omega)).trans hE8
          obtain ⟨e1, e2, _, e3⟩ := cellE hE11 (.int .i64 10)
          go_wp2_with (first | (refine wpList_store_row rfl 33 (.tmp 2) (.tmp 41) rfl pa zA rfl rfl 33 cs8 hA8 rfl hs8 (by simp [zA, Value.oneCell']) ?_; try go_simp))
          exact idle_end (zero_fin hi hpa H8.below hA8 hE8 (by rw [hpt] <;> rfl) _ rfl rfl)
  · have hR := hword
    clear hword
    go_wp2_with (go_at_call 13; refine hR.mono ?_; rintro e W ⟨v, r, γ1, τ, rfl, hrep, ⟨rfl, rfl⟩, H2, E2, hX, hsz2⟩; obtain ⟨sp, sc, rfl, hsv⟩ := repWords hrep; have hA2 := (hX _ (.inl rfl)).trans hA1; have hE2 := (hX _ (.inr rfl)).trans hE1; obtain ⟨hcE, hfE, hc2, hs2⟩ := cellE hE2 (.int .i64 (wordsT s).2))
    have hA3 : (W.setRow (w.heap.size + 1) #[.int .i64 (wordsT s).2]).heap[w.heap.size]? = some (.cells zA 33 (0, 0)) := (setRow_other _ _ _ _ (by omega)).trans hA2
    have hE3 := setRow_heap W (w.heap.size + 1) _ #[.int .i64 (wordsT s).2] 36 (0, 0) hE2
    generalize hW3 : W.setRow (w.heap.size + 1) #[.int .i64 (wordsT s).2] = W3 at *
    have hA4 : W3.drew.heap[w.heap.size]? = some (.cells zA 33 (0, 0)) := hA3
    have hE4 : W3.drew.heap[w.heap.size + 1]? = some (.cells #[.int .i64 (wordsT s).2] 36 (0, 0)) := hE3
    have fin : ∀ tmps : Array Value, tmps.getD 2 undef = .pointer (some ⟨w.heap.size, 0, none⟩) → tmps.getD 3 undef = .pointer (some ⟨w.heap.size + 1, 0, none⟩) → Leaves Tryd.prog Tryd.f8 tmps (Ends γ w s) [] .returning W3.drew := fun tmps h2 h3 => by
      have hsame : ∀ b, ¬ (b = w.heap.size ∨ b = w.heap.size + 1) → W3.drew.heap[b]? = W.heap[b]? := fun b hb => by
        show W3.heap[b]? = _
        rw [← hW3]
        exact setRow_other _ _ _ _ (fun e => hb (.inr e))
      obtain ⟨H3, E3⟩ := H2.out (w' := W3.drew) (X' := fun b => b = w.heap.size ∨ b = w.heap.size + 1) (by rw [← hW3]; rfl) (by rw [← hW3]; rfl) (by rw [← hW3]; rfl) (by show _ ≤ W3.heap.size; rw [← hW3]; simp) (fun b _ hb => hsame b hb) (fun b hb => .inl hb)
      have hp : parseT s = ({}, (wordsT s).2) := by unfold parseT; rw [if_pos he]
      exact leave_end H3 hA4 rfl hE4 hp (rep_verb _ _ 0) tmps h2 h3
    have s1 := setRow_id hA4
    have s2 := setRow_id hE4
    obtain ⟨k1, k2, k3, k4⟩ := cellE hE4 (.int .i64 (wordsT s).2)
    rw [s2] at k3 k4
    refine wp_region_any (by kernel_rfl) ?_
    try (change wpAny _ _ _ _ _ _ _ (World.drew _))
    generalize W3.drew = W4 at *
    refine wpAny_ready (rs := [0, 1]) (by kernel_rfl) (by simp) ?_
    refine AllReady.cons rfl (fun K hK => ?_) ?_
    · refine wp_load_row 33 (.tmp 2) rfl w.heap.size rfl 33 zA (0, 0) _ hA4 Tryd.underlying33 rfl rfl (hK _ _ ?_); clear hK K; try go_simp
      refine wpAny_ready (rs := [1, 2]) (by kernel_rfl) (by simp) ?_
      refine AllReady.cons rfl (fun K hK => ?_) ?_
      · go_simp; refine hK _ _ ?_; clear hK K
        refine wpAny_ready (rs := [2]) (by kernel_rfl) (by simp) ?_
        refine AllReady.cons rfl (fun K hK => ?_) ?_
        · refine wp_store_row 33 (.tmp 2) (.tmp 15) rfl w.heap.size zA rfl rfl 33 zA hA4 rfl rfl (by simp [zA, Value.oneCell']) (hK _ _ ?_); clear hK K; rw [s1]; try go_simp
          refine wpAny_ready (rs := [3]) (by kernel_rfl) (by simp) ?_
          refine AllReady.cons rfl (fun K hK => ?_) ?_
          · go_simp; refine hK _ _ ?_; clear hK K
            refine wpAny_done (by kernel_rfl) ?_ _
            (go_wp2; exact fin _ rfl rfl)
          exact AllReady.nil
        exact AllReady.nil
      refine AllReady.cons rfl (fun K hK => ?_) ?_
      · refine wp_store_row 33 (.tmp 2) (.tmp 15) rfl w.heap.size zA rfl rfl 33 zA hA4 rfl rfl (by simp [zA, Value.oneCell']) (hK _ _ ?_); clear hK K; rw [s1]; try go_simp
        refine wpAny_ready (rs := [1]) (by kernel_rfl) (by simp) ?_
        refine AllReady.cons rfl (fun K hK => ?_) ?_
        · go_simp; refine hK _ _ ?_; clear hK K
          refine wpAny_ready (rs := [3]) (by kernel_rfl) (by simp) ?_
          refine AllReady.cons rfl (fun K hK => ?_) ?_
          · go_simp; refine hK _ _ ?_; clear hK K
            refine wpAny_done (by kernel_rfl) ?_ _
            (go_wp2; exact fin _ rfl rfl)
          exact AllReady.nil
        exact AllReady.nil
      exact AllReady.nil
    refine AllReady.cons rfl (fun K hK => ?_) ?_
    · go_simp; refine hK _ _ ?_; clear hK K
      refine wpAny_ready (rs := [0]) (by kernel_rfl) (by simp) ?_
      refine AllReady.cons rfl (fun K hK => ?_) ?_
      · refine wp_load_row 33 (.tmp 2) rfl w.heap.size rfl 33 zA (0, 0) _ hA4 Tryd.underlying33 rfl rfl (hK _ _ ?_); clear hK K; try go_simp
        refine wpAny_ready (rs := [2]) (by kernel_rfl) (by simp) ?_
        refine AllReady.cons rfl (fun K hK => ?_) ?_
        · refine wp_store_row 33 (.tmp 2) (.tmp 15) rfl w.heap.size zA rfl rfl 33 zA hA4 rfl rfl (by simp [zA, Value.oneCell']) (hK _ _ ?_); clear hK K; rw [s1]; try go_simp
          refine wpAny_ready (rs := [3]) (by kernel_rfl) (by simp) ?_
          refine AllReady.cons rfl (fun K hK => ?_) ?_
          · go_simp; refine hK _ _ ?_; clear hK K
            refine wpAny_done (by kernel_rfl) ?_ _
            (go_wp2; exact fin _ rfl rfl)
          exact AllReady.nil
        exact AllReady.nil
      exact AllReady.nil
    exact AllReady.nil
theorem noOut_akx (x : Ak) (e : Int) : (AVal.tuple [x.a, .int .i64 e]).noOut 0 = true := by simp only [Ak.a, Opr.cs, noOutL, AVal.noOut, prv_noOut, strv_noOut, ndv_noOut, lkv_noOut, Bool.and_self]
theorem noTok_akx (x : Ak) (e : Int) : (AVal.tuple [x.a, .int .i64 e]).noTok 0 = true := by simp only [Ak.a, Opr.cs, noTokL, AVal.noTok, prv_noTok, strv_noTok, ndv_noTok, lkv_noTok, Tag.below, Bool.and_self]
theorem bw_noOut (l : List UInt8) : noOutL 0 [.slice (bw l) 1 .ro] = true := by
  simp only [noOutL, AVal.noOut, Bool.and_true]
  exact noOutL_map 0 (fun _ => rfl) l
theorem bw_noTok (l : List UInt8) : noTokL 0 [.slice (bw l) 1 .ro] = true := by
  simp only [noTokL, AVal.noTok, Bool.and_true, Tag.below]
  exact noTokL_map 0 (fun _ => rfl) l
theorem parse_ok (hv : EntOk Tryd.prog validE) : EntOk Tryd.prog parseE := by
  intro xs σ; simp only [parseE]; split
  · rename_i a n t
    intro hc
    simp only [Bool.and_eq_true, hold_eq, decide_eq_true_eq] at hc
    obtain ⟨h1, h2, h3⟩ := hc
    refine pcall_of (.cons (wk_bw t h1 h2) (.refl _)) (parse_c hv _ (by simpa using h3)) (bw_noOut _) (bw_noTok _) (noOut_akx _ _) (noTok_akx _ _)
  · trivial
end Go.Proofs
end
