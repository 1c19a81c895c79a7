/-
  The texts Tg, Uc, Dt, Ud, Ds, Ue, Ug, Uh of this seat, one behind the other.
-/
import Derived.Test.YtcijjgfadkflmaaDoorZ16
import Derived.KernelRfl
import Derived.Lib.ItoaLen

section
namespace Go.Proofs.YtcijjgfadkflmaaDoor
open Go.AL Go.RowKit
set_option linter.unusedSimpArgs false
set_option linter.unusedVariables false
theorem flat_strv : ∀ l : List Txt, flat (strv l) = strv l
  | [] => rfl
  | x :: l => by
    have := flat_strv l
    simp only [strv, List.map_cons] at this ⊢
    simp only [flat, List.flatMap_cons] at this ⊢
    rw [this]; rfl
theorem repL_strv {γ : Gh} {w : World} : ∀ {l : List Txt} {vs : List Value}, RepL γ w false (strv l) vs → vs = l.map fun s => Value.string ⟨s.toArray⟩
  | [], _, h => by cases h; rfl
  | x :: l, _, h => by
    cases h with
    | cons h t => cases h; rw [repL_strv t]; rfl
theorem map_bytes : ∀ l : List Txt, (l.map fun s => (⟨s.toArray⟩ : ByteArray)).map (·.data.toList) = l
  | [] => rfl
  | x :: l => by rw [List.map_cons, List.map_cons, map_bytes l]
theorem block_lt {w : World} {b o : Nat} {v : Value} (h : w.cell? ⟨b, o, none⟩ = some v) : b < w.heap.size := by
  by_cases hb : b < w.heap.size
  · exact hb
  · have : w.heap[b]? = none := Array.getElem?_eq_none (by omega)
    simp [World.cell?, this] at h
theorem join_ok : EntOk Tryd.prog joinE := by
  intro xs σ; simp only [joinE]; split
  · rename_i a n t
    intro hc
    simp only [Bool.and_eq_true, hold_eq, decide_eq_true_eq] at hc
    obtain ⟨h1, h2, h3, h4⟩ := hc
    have ha := strv_of h2
    generalize List.map AVal.strOf a = l at *
    subst ha
    refine fun σ => ACall.args (PCall.ofBelow (xs := [.slice (strv l) 1 .ro, .str [32]]) (v := .str (joinT l)) (fun γ w vs hr => ?_) σ) (.cons (wkW t h1) (.refl _))
    obtain ⟨u, v, rfl, hu, hv⟩ := repL2 hr
    cases hv
    have h3 := lenL_of h3
    rw [strv_length] at h3
    generalize he : strv l = es at hu
    cases hu with
    | sliceNil ht ho =>
      have hl : l = [] := by cases l with
        | nil => rfl
        | cons x y => cases he
      subst hl
      exact (Tryd.strings_Join_none _ 0 ⟨#[32]⟩ w).mono fun e w' ⟨e1, e2⟩ => ⟨_, e1, .str _ _, by rw [e2]; exact Below.refl _ _⟩
    | @sliceRow _ _ _ _ b off cap vs hrr hs hcl h1q hn hm ht =>
      subst he
      rw [flat_strv] at hrr
      have hvs := repL_strv hrr
      subst hvs
      rw [strv_length] at hn ⊢
      cases l with
      | nil => exact (Tryd.strings_Join_none _ cap ⟨#[32]⟩ w).mono fun e w' ⟨e1, e2⟩ => ⟨_, e1, .str _ _, by rw [e2]; exact Below.refl _ _⟩
      | cons x y =>
        have hm1 : ((x :: y).map fun s => (⟨s.toArray⟩ : ByteArray)).map (·.data.toList) = x :: y := map_bytes _
        have := Tryd.strings_Join b off cap ((x :: y).map fun s => (⟨s.toArray⟩ : ByteArray)) ⟨#[32]⟩ w (fun j v hj => (hcl j (.string v) (by
          rw [List.getElem?_map] at hj ⊢
          cases hx : (x :: y)[j]? with
          | none => rw [hx] at hj; cases hj
          | some z => rw [hx] at hj; cases hj; rfl)).2) (block_lt (hcl 0 _ rfl).2) (by rw [List.length_map]; omega) (by rw [List.length_map]; omega) (by rw [hm1]; exact Nat.le_trans h4 (by omega))
        rw [hm1, List.length_map] at this
        exact this.mono fun e w' ⟨e1, e2⟩ => ⟨_, e1, .str _ _, e2⟩
  · trivial
end Go.Proofs.YtcijjgfadkflmaaDoor
end

section
namespace Go.Proofs.YtcijjgfadkflmaaDoor
open Go.AL
set_option linter.unusedSimpArgs false
set_option linter.unusedVariables false
set_option maxHeartbeats 4000000
set_option maxRecDepth 20000
theorem awake_c : ACall Tryd.prog 4 [] Sto.empty fun r _ => Wk r (.bool true) := by
  refine awake_i _ (.of [parseE] rfl ⟨parse_ok valid_ok, trivial⟩) ?_
  intro y hy
  subst hy
  refine gb_by (by simp only [hold_eq]) ?_
  intro y hy
  subst hy
  refine gb_by (by simp only [hold_eq]) ?_
  simp only [hold_eq, prv, ndv, lkv, List.map_cons, List.map_nil, List.length_cons, List.length_nil, Pr.a, Nd.a, Lk.a]
  repeat' (first | (with_reducible refine brT ?_ ?_) | (with_reducible refine gb_by ?_ ?_))
  all_goals first | exact Wk.refl _ | rfl
theorem awake_ok : EntOk Tryd.prog awakeE := by
  intro xs σ; simp only [awakeE]; split
  · intro _
    exact pcall_of (.refl _) awake_c rfl rfl rfl rfl
  · trivial
theorem opr_eta (o : Opr) : Opr.mk o.k o.edge o.out o.id o.fr o.tw o.most o.steps o.label o.key o.props o.keys (Vl.mk o.lo.k o.lo.n o.lo.s) (Vl.mk o.hi.k o.hi.n o.hi.s) o.nodes o.links = o := rfl
theorem all4 (o : Opr) : (List.all (prv o.props) prIs && (List.all (strv o.keys) strIs && (List.all (ndv o.nodes) ndIs && List.all (lkv o.links) lkIs))) = true := by simp only [prv_is, strv_is, ndv_is, lkv_is, Bool.and_self]
theorem wordsA_len (x : Ak) (hk : (wordsO x.op).length ≤ 1000000) : (wordsA x).length ≤ 1000000 := by
  unfold wordsA
  split
  · simp
  · split
    · simp
    · split
      · simp
      · exact hk
theorem print_c (x : Ak) (hf : x.op.fit) (hw : x.op.few) (hl : (joinT (wordsA x)).length ≤ 100000000000000) (hk : (wordsO x.op).length ≤ 1000000) : ACall Tryd.prog 6 [Ak.a x] Sto.empty fun r _ => Wk r (.tuple [.str (printA x).1, .int .i64 (printA x).2]) := by
  have tail : ∀ j : Txt, j = joinT (wordsA x) → ∀ y : Ak × Int, y = parseT j → printA x = if y.2 = 0 ∧ sameA x y.1 = true then (j, 0) else ([], 10) := by
    intro j hj y hy
    rw [hy, hj]; rfl
  refine print_i x _ (.of [askWordsE, joinE, parseE, sameE] rfl ⟨askWords_ok, join_ok, parse_ok valid_ok, same_ok, trivial⟩) ?_
  simp only [map_prOf, map_strOf_strv, map_ndOf, map_lkOf, all4, opr_eta, Bool.true_and, hold_eq]
  intro y hy
  subst hy
  refine gb_by (by rw [fit_mk hf, few_mk hw]; rfl) ?_
  have hv3 : ∀ (v : Int), x.verb = v → 1 ≤ v → v ≤ 3 → IntKind.wrap IntKind.i64 (v - 1) = v - 1 := fun v _ h1 h2 => wrap_i64 (by omega) (by omega)
  have hbo : ∀ j : Txt, List.map AL.byteOf (List.map ofByte j) = j := map_byteOf_bw
  have hbi : ∀ j : Txt, List.all (List.map ofByte j) byteIs = true := bw_byteIs
  have hpf := fun j => few_mk (parse_few j)
  with_reducible refine brV_by (fun h1 => ?_) (fun h1 => ?_)
  · have h1 := of_decide_eq_true h1
    with_reducible refine brV_by (fun h2 => ?_) (fun h2 => ?_)
    · have h2 := of_decide_eq_true h2
      rw [hv3 _ rfl h1 h2]
      refine gb_by (decide_eq_true ⟨by omega, by omega, h2⟩) ?_
      intro j hj
      have hX : (List.take (Int.toNat x.verb - Int.toNat (x.verb - 1)) (List.drop (Int.toNat (x.verb - 1)) [AVal.str [98, 101, 103, 105, 110], AVal.str [99, 111, 109, 109, 105, 116], AVal.str [97, 98, 111, 114, 116]])) = strv (wordsA x) := by
        have : x.verb = 1 ∨ x.verb = 2 ∨ x.verb = 3 := by omega
        unfold wordsA
        rcases this with e | e | e <;> rw [e] <;> rfl
      rw [hX] at hj ⊢
      rw [map_strOf_strv] at hj
      have hjl : j.length ≤ 100000000000000 := by rw [hj]; exact hl
      refine gb_by (by rw [strv_is, strv_length, lenL_mk (wordsA_len x hk), decide_eq_true hjl]; rfl) (gb_by (decide_eq_true ⟨by omega, by decide⟩) ?_)
      intro y hy
      rw [hbo] at hy
      have hp := tail j hj y hy
      refine gb_by (by rw [hbi, List.length_map, decide_eq_true hjl]; rfl) ?_
      have hy1 : fewB y.1.op = true := by rw [hy]; exact hpf j
      rw [hp]
      with_reducible refine brV_by' (fun h3 => ?_) (fun h3 => ?_)
      · have h3 : y.2 = 0 := by simpa using h3
        refine gb_by (by rw [few_mk hw, hy1]; rfl) ?_
        with_reducible refine brV_by (fun h4 => ?_) (fun h4 => ?_)
        · have h4 : sameA x y.1 = false := by simpa only [sameA, Bool.not_eq_true'] using h4
          rw [if_neg (by rw [h4]; simp)]
          exact .refl _
        · have h4 : sameA x y.1 = true := by simpa [sameA] using h4
          rw [if_pos ⟨h3, h4⟩]
          exact .refl _
      · have h3 : ¬ y.2 = 0 := by simpa using h3
        rw [if_neg (fun h => h3 h.1)]
        exact .refl _
    · have h2 := of_decide_eq_false h2
      intro j hj
      have hX : wordsO x.op = wordsA x := by unfold wordsA; rw [if_neg (by omega), if_neg (by omega), if_neg (by omega)]
      rw [hX] at hj ⊢
      have hjl : j.length ≤ 100000000000000 := by rw [hj]; exact hl
      refine gb_by (by rw [strv_is, strv_length, lenL_mk (wordsA_len x hk), decide_eq_true hjl]; rfl) (gb_by (decide_eq_true ⟨by omega, by decide⟩) ?_)
      intro y hy
      rw [hbo] at hy
      have hp := tail j hj y hy
      refine gb_by (by rw [hbi, List.length_map, decide_eq_true hjl]; rfl) ?_
      have hy1 : fewB y.1.op = true := by rw [hy]; exact hpf j
      rw [hp]
      with_reducible refine brV_by' (fun h3 => ?_) (fun h3 => ?_)
      · have h3 : y.2 = 0 := by simpa using h3
        refine gb_by (by rw [few_mk hw, hy1]; rfl) ?_
        with_reducible refine brV_by (fun h4 => ?_) (fun h4 => ?_)
        · have h4 : sameA x y.1 = false := by simpa only [sameA, Bool.not_eq_true'] using h4
          rw [if_neg (by rw [h4]; simp)]
          exact .refl _
        · have h4 : sameA x y.1 = true := by simpa [sameA] using h4
          rw [if_pos ⟨h3, h4⟩]
          exact .refl _
      · have h3 : ¬ y.2 = 0 := by simpa using h3
        rw [if_neg (fun h => h3 h.1)]
        exact .refl _
  · have h1 := of_decide_eq_false h1
    intro j hj
    have hX : wordsO x.op = wordsA x := by unfold wordsA; rw [if_neg (by omega), if_neg (by omega), if_neg (by omega)]
    rw [hX] at hj ⊢
    have hjl : j.length ≤ 100000000000000 := by rw [hj]; exact hl
    refine gb_by (by rw [strv_is, strv_length, lenL_mk (wordsA_len x hk), decide_eq_true hjl]; rfl) (gb_by (decide_eq_true ⟨by omega, by decide⟩) ?_)
    intro y hy
    rw [hbo] at hy
    have hp := tail j hj y hy
    refine gb_by (by rw [hbi, List.length_map, decide_eq_true hjl]; rfl) ?_
    have hy1 : fewB y.1.op = true := by rw [hy]; exact hpf j
    rw [hp]
    with_reducible refine brV_by' (fun h3 => ?_) (fun h3 => ?_)
    · have h3 : y.2 = 0 := by simpa using h3
      refine gb_by (by rw [few_mk hw, hy1]; rfl) ?_
      with_reducible refine brV_by (fun h4 => ?_) (fun h4 => ?_)
      · have h4 : sameA x y.1 = false := by simpa only [sameA, Bool.not_eq_true'] using h4
        rw [if_neg (by rw [h4]; simp)]
        exact .refl _
      · have h4 : sameA x y.1 = true := by simpa [sameA] using h4
        rw [if_pos ⟨h3, h4⟩]
        exact .refl _
    · have h3 : ¬ y.2 = 0 := by simpa using h3
      rw [if_neg (fun h => h3 h.1)]
      exact .refl _
theorem nodeCells_len : ∀ l : List Nd, (l.flatMap fun n => wO :: nodeW n ++ [wC]).length ≤ 6 * l.length
  | [] => by simp
  | n :: l => by
    have := nodeCells_len l
    have h := nodeW_len n
    rw [List.flatMap_cons, List.length_append, List.length_cons]
    simp only [List.cons_append, List.length_cons, List.length_append, List.length_nil] at this ⊢
    omega
theorem linkCells_len : ∀ l : List Lk, (l.flatMap fun x => [wL, Lib.itoa x.fr, labelW x.label, Lib.itoa x.tw, wR]).length ≤ 5 * l.length
  | [] => by simp
  | n :: l => by
    have := linkCells_len l
    rw [List.flatMap_cons, List.length_append, List.length_cons]
    simp only [List.length_cons, List.length_nil] at this ⊢
    omega
theorem wordsO_many (o : Opr) : (wordsO o).length ≤ 5 + (3 * o.props.length + 2) + o.keys.length + 6 * o.nodes.length + 5 * o.links.length := by
  have h1 := propW_len o.props
  have h2 := nodeCells_len o.nodes
  have h3 := linkCells_len o.links
  have h4 := nodeW_len ⟨o.label, o.key, o.lo, o.hi⟩
  unfold wordsO
  repeat' split
  all_goals simp only [List.length_cons, List.length_nil, List.length_append] at *
  all_goals omega
theorem print_ok : EntOk Tryd.prog printSE := by
  intro xs σ; simp only [printSE]; split
  · rename_i v cs
    refine oprE_eq (fun o ho => ?_) (fun o hc => by cases hc)
    subst ho
    intro hc
    simp only [Bool.true_and, Bool.and_eq_true, hold_eq, decide_eq_true_eq] at hc
    obtain ⟨h1, h2, h0, h3⟩ := hc
    have hw := few_of h2
    refine pcall_of (.refl _) (print_c ⟨v, o⟩ (fit_of h1) hw h3 h0) ?_ ?_ rfl rfl
    · have := noOut_ak ⟨v, o⟩; simp only [noOutL, Bool.and_true]; exact this
    · have := noTok_ak ⟨v, o⟩; simp only [noTokL, Bool.and_true]; exact this
  · trivial
end Go.Proofs.YtcijjgfadkflmaaDoor
end

section
set_option maxRecDepth 100000
set_option maxHeartbeats 0
set_option linter.unusedVariables false
namespace Go.Proofs.YtcijjgfadkflmaaDoor
open Go.AL Go.Proofs
noncomputable def cRSame : Cfg := { keep := [0, 1, 2, 3, 4, 5, 6, 7, 8, 9, 95, 132, 137, 150, 156, 171, 177, 192], cut := [(17, [5, 6, 7], [5, 6]), (27, [5, 6, 8], [5, 6]), (37, [5, 6, 9], [5, 6]), (10, [5, 6], [5, 6]), (14, [5, 6], [5, 6]), (24, [5, 6], [5, 6]), (34, [5, 6], [5, 6])], orc := ofList [psameE] }
noncomputable def code_7_ : Code := (Tryd.f7.body).getD .skip
noncomputable def code_7_1_1_1_1 : Code := codeAt code_7_ [1, 1, 1, 1]
noncomputable def code_7_1_1_1_1_1 : Code := codeAt code_7_ [1, 1, 1, 1, 1]
noncomputable def code_7_1_1_1_1_1_1 : Code := codeAt code_7_ [1, 1, 1, 1, 1, 1]
noncomputable def code_7_1_1_1_1_1_1_1 : Code := codeAt code_7_ [1, 1, 1, 1, 1, 1, 1]
noncomputable def code_7_1_1_1_1_1_1_1_1 : Code := codeAt code_7_ [1, 1, 1, 1, 1, 1, 1, 1]
noncomputable def code_7_1_1_1_1_1_0_1_0_0 : Code := codeAt code_7_ [1, 1, 1, 1, 1, 0, 1, 0, 0]
noncomputable def code_7_1_1_1_1_1_1_0_1_0_0 : Code := codeAt code_7_ [1, 1, 1, 1, 1, 1, 0, 1, 0, 0]
noncomputable def code_7_1_1_1_1_1_1_1_0_1_0_0 : Code := codeAt code_7_ [1, 1, 1, 1, 1, 1, 1, 0, 1, 0, 0]
theorem rsame_r (x y : Ak) (Q : AVal → Sto → Prop) : vc Tryd.prog cRSame code_7_ (endK Tryd.prog Tryd.f7.results.toList Q) (St.start Tryd.f7.ntmps [Ak.a x, Ak.a y] (Sto.empty)) =
  (brV (hold (Ak.verb x != Ak.verb y)) false (brV (hold (Opr.k (Ak.op x) != Opr.k (Ak.op y))) false (brV (!hold (Opr.edge (Ak.op x) == Opr.edge (Ak.op y))) false (brV (!hold (Opr.out (Ak.op x) == Opr.out (Ak.op y))) false (brV (hold (Opr.id (Ak.op x) != Opr.id (Ak.op y))) false (brV (hold (Opr.fr (Ak.op x) != Opr.fr (Ak.op y))) false (brV (hold (Opr.tw (Ak.op x) != Opr.tw (Ak.op y))) false (brV (hold (Opr.most (Ak.op x) != Opr.most (Ak.op y))) false (brV (hold !Opr.label (Ak.op x) == Opr.label (Ak.op y)) false (brV (hold !Opr.key (Ak.op x) == Opr.key (Ak.op y)) false (brV (!hold (Vl.k (Opr.lo (Ak.op x)) == Vl.k (Opr.lo (Ak.op y)) && (Vl.n (Opr.lo (Ak.op x)) == Vl.n (Opr.lo (Ak.op y)) && (Vl.s (Opr.lo (Ak.op x)) == Vl.s (Opr.lo (Ak.op y)) && true)))) false (brV (!hold (Vl.k (Opr.hi (Ak.op x)) == Vl.k (Opr.hi (Ak.op y)) && (Vl.n (Opr.hi (Ak.op x)) == Vl.n (Opr.hi (Ak.op y)) && (Vl.s (Opr.hi (Ak.op x)) == Vl.s (Opr.hi (Ak.op y)) && true)))) true (Q (AVal.bool false) Sto.empty) (cutV (vc Tryd.prog cRSame code_7_1_1_1_1 (endK Tryd.prog (Array.toList (Go.Func.results Tryd.f7)) Q)) (St.mk 193 [(5, AVal.ptr (Oid.loc 5) 0), (6, AVal.ptr (Oid.loc 6) 0)] [] [(5, AObj.cells [AVal.int IntKind.i64 (Opr.k (Ak.op x)), AVal.bool (Opr.edge (Ak.op x)), AVal.bool (Opr.out (Ak.op x)), AVal.int IntKind.i64 (Opr.id (Ak.op x)), AVal.int IntKind.i64 (Opr.fr (Ak.op x)), AVal.int IntKind.i64 (Opr.tw (Ak.op x)), AVal.int IntKind.i64 (Opr.most (Ak.op x)), AVal.int IntKind.i64 (Opr.steps (Ak.op x)), AVal.str (Opr.label (Ak.op x)), AVal.str (Opr.key (Ak.op x)), AVal.slice (prv (Opr.props (Ak.op x))) 4 Tag.ro, AVal.slice (strv (Opr.keys (Ak.op x))) 1 Tag.ro, AVal.int IntKind.i64 (Vl.k (Opr.lo (Ak.op x))), AVal.int IntKind.i64 (Vl.n (Opr.lo (Ak.op x))), AVal.str (Vl.s (Opr.lo (Ak.op x))), AVal.int IntKind.i64 (Vl.k (Opr.hi (Ak.op x))), AVal.int IntKind.i64 (Vl.n (Opr.hi (Ak.op x))), AVal.str (Vl.s (Opr.hi (Ak.op x))), AVal.slice (ndv (Opr.nodes (Ak.op x))) 8 Tag.ro, AVal.slice (lkv (Opr.links (Ak.op x))) 3 Tag.ro]), (6, AObj.cells [AVal.int IntKind.i64 (Opr.k (Ak.op y)), AVal.bool (Opr.edge (Ak.op y)), AVal.bool (Opr.out (Ak.op y)), AVal.int IntKind.i64 (Opr.id (Ak.op y)), AVal.int IntKind.i64 (Opr.fr (Ak.op y)), AVal.int IntKind.i64 (Opr.tw (Ak.op y)), AVal.int IntKind.i64 (Opr.most (Ak.op y)), AVal.int IntKind.i64 (Opr.steps (Ak.op y)), AVal.str (Opr.label (Ak.op y)), AVal.str (Opr.key (Ak.op y)), AVal.slice (prv (Opr.props (Ak.op y))) 4 Tag.ro, AVal.slice (strv (Opr.keys (Ak.op y))) 1 Tag.ro, AVal.int IntKind.i64 (Vl.k (Opr.lo (Ak.op y))), AVal.int IntKind.i64 (Vl.n (Opr.lo (Ak.op y))), AVal.str (Vl.s (Opr.lo (Ak.op y))), AVal.int IntKind.i64 (Vl.k (Opr.hi (Ak.op y))), AVal.int IntKind.i64 (Vl.n (Opr.hi (Ak.op y))), AVal.str (Vl.s (Opr.hi (Ak.op y))), AVal.slice (ndv (Opr.nodes (Ak.op y))) 8 Tag.ro, AVal.slice (lkv (Opr.links (Ak.op y))) 3 Tag.ro])] Sto.empty))) (Q (AVal.bool false) Sto.empty)) (Q (AVal.bool false) Sto.empty)) (Q (AVal.bool false) Sto.empty)) (Q (AVal.bool false) Sto.empty)) (Q (AVal.bool false) Sto.empty)) (Q (AVal.bool false) Sto.empty)) (Q (AVal.bool false) Sto.empty)) (Q (AVal.bool false) Sto.empty)) (Q (AVal.bool false) Sto.empty)) (Q (AVal.bool false) Sto.empty)) (Q (AVal.bool false) Sto.empty)) := by kernel_rfl
theorem rsame_i (x y : Ak) (Q : AVal → Sto → Prop) (ho : OrcOk Tryd.prog cRSame) (h : brV (hold (Ak.verb x != Ak.verb y)) false (brV (hold (Opr.k (Ak.op x) != Opr.k (Ak.op y))) false (brV (!hold (Opr.edge (Ak.op x) == Opr.edge (Ak.op y))) false (brV (!hold (Opr.out (Ak.op x) == Opr.out (Ak.op y))) false (brV (hold (Opr.id (Ak.op x) != Opr.id (Ak.op y))) false (brV (hold (Opr.fr (Ak.op x) != Opr.fr (Ak.op y))) false (brV (hold (Opr.tw (Ak.op x) != Opr.tw (Ak.op y))) false (brV (hold (Opr.most (Ak.op x) != Opr.most (Ak.op y))) false (brV (hold !Opr.label (Ak.op x) == Opr.label (Ak.op y)) false (brV (hold !Opr.key (Ak.op x) == Opr.key (Ak.op y)) false (brV (!hold (Vl.k (Opr.lo (Ak.op x)) == Vl.k (Opr.lo (Ak.op y)) && (Vl.n (Opr.lo (Ak.op x)) == Vl.n (Opr.lo (Ak.op y)) && (Vl.s (Opr.lo (Ak.op x)) == Vl.s (Opr.lo (Ak.op y)) && true)))) false (brV (!hold (Vl.k (Opr.hi (Ak.op x)) == Vl.k (Opr.hi (Ak.op y)) && (Vl.n (Opr.hi (Ak.op x)) == Vl.n (Opr.hi (Ak.op y)) && (Vl.s (Opr.hi (Ak.op x)) == Vl.s (Opr.hi (Ak.op y)) && true)))) true (Q (AVal.bool false) Sto.empty) (cutV (vc Tryd.prog cRSame code_7_1_1_1_1 (endK Tryd.prog (Array.toList (Go.Func.results Tryd.f7)) Q)) (St.mk 193 [(5, AVal.ptr (Oid.loc 5) 0), (6, AVal.ptr (Oid.loc 6) 0)] [] [(5, AObj.cells [AVal.int IntKind.i64 (Opr.k (Ak.op x)), AVal.bool (Opr.edge (Ak.op x)), AVal.bool (Opr.out (Ak.op x)), AVal.int IntKind.i64 (Opr.id (Ak.op x)), AVal.int IntKind.i64 (Opr.fr (Ak.op x)), AVal.int IntKind.i64 (Opr.tw (Ak.op x)), AVal.int IntKind.i64 (Opr.most (Ak.op x)), AVal.int IntKind.i64 (Opr.steps (Ak.op x)), AVal.str (Opr.label (Ak.op x)), AVal.str (Opr.key (Ak.op x)), AVal.slice (prv (Opr.props (Ak.op x))) 4 Tag.ro, AVal.slice (strv (Opr.keys (Ak.op x))) 1 Tag.ro, AVal.int IntKind.i64 (Vl.k (Opr.lo (Ak.op x))), AVal.int IntKind.i64 (Vl.n (Opr.lo (Ak.op x))), AVal.str (Vl.s (Opr.lo (Ak.op x))), AVal.int IntKind.i64 (Vl.k (Opr.hi (Ak.op x))), AVal.int IntKind.i64 (Vl.n (Opr.hi (Ak.op x))), AVal.str (Vl.s (Opr.hi (Ak.op x))), AVal.slice (ndv (Opr.nodes (Ak.op x))) 8 Tag.ro, AVal.slice (lkv (Opr.links (Ak.op x))) 3 Tag.ro]), (6, AObj.cells [AVal.int IntKind.i64 (Opr.k (Ak.op y)), AVal.bool (Opr.edge (Ak.op y)), AVal.bool (Opr.out (Ak.op y)), AVal.int IntKind.i64 (Opr.id (Ak.op y)), AVal.int IntKind.i64 (Opr.fr (Ak.op y)), AVal.int IntKind.i64 (Opr.tw (Ak.op y)), AVal.int IntKind.i64 (Opr.most (Ak.op y)), AVal.int IntKind.i64 (Opr.steps (Ak.op y)), AVal.str (Opr.label (Ak.op y)), AVal.str (Opr.key (Ak.op y)), AVal.slice (prv (Opr.props (Ak.op y))) 4 Tag.ro, AVal.slice (strv (Opr.keys (Ak.op y))) 1 Tag.ro, AVal.int IntKind.i64 (Vl.k (Opr.lo (Ak.op y))), AVal.int IntKind.i64 (Vl.n (Opr.lo (Ak.op y))), AVal.str (Vl.s (Opr.lo (Ak.op y))), AVal.int IntKind.i64 (Vl.k (Opr.hi (Ak.op y))), AVal.int IntKind.i64 (Vl.n (Opr.hi (Ak.op y))), AVal.str (Vl.s (Opr.hi (Ak.op y))), AVal.slice (ndv (Opr.nodes (Ak.op y))) 8 Tag.ro, AVal.slice (lkv (Opr.links (Ak.op y))) 3 Tag.ro])] Sto.empty))) (Q (AVal.bool false) Sto.empty)) (Q (AVal.bool false) Sto.empty)) (Q (AVal.bool false) Sto.empty)) (Q (AVal.bool false) Sto.empty)) (Q (AVal.bool false) Sto.empty)) (Q (AVal.bool false) Sto.empty)) (Q (AVal.bool false) Sto.empty)) (Q (AVal.bool false) Sto.empty)) (Q (AVal.bool false) Sto.empty)) (Q (AVal.bool false) Sto.empty)) (Q (AVal.bool false) Sto.empty)) : ACall Tryd.prog 7 [Ak.a x, Ak.a y] (Sto.empty) Q :=
  ACall.intro hmix Tryd.func7 (c := code_7_) (by kernel_rfl) cRSame ho (Nat.le_of_ble_eq_true (by kernel_rfl)) (by rw [rsame_r]; exact h)
noncomputable def rsA_S (x y : Opr) : St := St.mk 193 [(5, .ptr (.loc 5) 0), (6, .ptr (.loc 6) 0)] [] [(5, .cells (Opr.cs x)), (6, .cells (Opr.cs y))] (Sto.empty)
noncomputable abbrev rsA_C : Code := code_7_1_1_1_1
theorem rsA_r (x y : Opr) (K : Exit → St → Prop) : vc Tryd.prog cRSame code_7_1_1_1_1 K (St.mk 193 [(5, .ptr (.loc 5) 0), (6, .ptr (.loc 6) 0)] [] [(5, .cells (Opr.cs x)), (6, .cells (Opr.cs y))] (Sto.empty)) =
  (∀ (y_1 : Bool), y_1 = hold (decide (List.map prOf (prv (Opr.props x)) = List.map prOf (prv (Opr.props y)))) → gb (List.all (prv (Opr.props x)) prIs && (lenL (List.length (prv (Opr.props x))) && (List.all (prv (Opr.props y)) prIs && lenL (List.length (prv (Opr.props y)))))) (brV (!y_1) false (brV (hold ((↑(List.length (strv (Opr.keys x))) : Int) != (↑(List.length (strv (Opr.keys y))) : Int))) false (brV (hold ((↑(List.length (ndv (Opr.nodes x))) : Int) != (↑(List.length (ndv (Opr.nodes y))) : Int))) false (brV (hold ((↑(List.length (lkv (Opr.links x))) : Int) != (↑(List.length (lkv (Opr.links y))) : Int))) true (K Exit.ret (St.mk 193 [(5, AVal.ptr (Oid.loc 5) 0), (6, AVal.ptr (Oid.loc 6) 0), (132, AVal.bool (hold ((↑(List.length (lkv (Opr.links x))) : Int) != (↑(List.length (lkv (Opr.links y))) : Int)))), (4, AVal.bool false)] [] [(5, AObj.cells [AVal.int IntKind.i64 (Opr.k x), AVal.bool (Opr.edge x), AVal.bool (Opr.out x), AVal.int IntKind.i64 (Opr.id x), AVal.int IntKind.i64 (Opr.fr x), AVal.int IntKind.i64 (Opr.tw x), AVal.int IntKind.i64 (Opr.most x), AVal.int IntKind.i64 (Opr.steps x), AVal.str (Opr.label x), AVal.str (Opr.key x), AVal.slice (prv (Opr.props x)) 4 Tag.ro, AVal.slice (strv (Opr.keys x)) 1 Tag.ro, AVal.int IntKind.i64 (Vl.k (Opr.lo x)), AVal.int IntKind.i64 (Vl.n (Opr.lo x)), AVal.str (Vl.s (Opr.lo x)), AVal.int IntKind.i64 (Vl.k (Opr.hi x)), AVal.int IntKind.i64 (Vl.n (Opr.hi x)), AVal.str (Vl.s (Opr.hi x)), AVal.slice (ndv (Opr.nodes x)) 8 Tag.ro, AVal.slice (lkv (Opr.links x)) 3 Tag.ro]), (6, AObj.cells [AVal.int IntKind.i64 (Opr.k y), AVal.bool (Opr.edge y), AVal.bool (Opr.out y), AVal.int IntKind.i64 (Opr.id y), AVal.int IntKind.i64 (Opr.fr y), AVal.int IntKind.i64 (Opr.tw y), AVal.int IntKind.i64 (Opr.most y), AVal.int IntKind.i64 (Opr.steps y), AVal.str (Opr.label y), AVal.str (Opr.key y), AVal.slice (prv (Opr.props y)) 4 Tag.ro, AVal.slice (strv (Opr.keys y)) 1 Tag.ro, AVal.int IntKind.i64 (Vl.k (Opr.lo y)), AVal.int IntKind.i64 (Vl.n (Opr.lo y)), AVal.str (Vl.s (Opr.lo y)), AVal.int IntKind.i64 (Vl.k (Opr.hi y)), AVal.int IntKind.i64 (Vl.n (Opr.hi y)), AVal.str (Vl.s (Opr.hi y)), AVal.slice (ndv (Opr.nodes y)) 8 Tag.ro, AVal.slice (lkv (Opr.links y)) 3 Tag.ro])] Sto.empty)) (cutV (vc Tryd.prog cRSame code_7_1_1_1_1_1 K) (St.mk 193 [(5, AVal.ptr (Oid.loc 5) 0), (6, AVal.ptr (Oid.loc 6) 0)] [] [(5, AObj.cells [AVal.int IntKind.i64 (Opr.k x), AVal.bool (Opr.edge x), AVal.bool (Opr.out x), AVal.int IntKind.i64 (Opr.id x), AVal.int IntKind.i64 (Opr.fr x), AVal.int IntKind.i64 (Opr.tw x), AVal.int IntKind.i64 (Opr.most x), AVal.int IntKind.i64 (Opr.steps x), AVal.str (Opr.label x), AVal.str (Opr.key x), AVal.slice (prv (Opr.props x)) 4 Tag.ro, AVal.slice (strv (Opr.keys x)) 1 Tag.ro, AVal.int IntKind.i64 (Vl.k (Opr.lo x)), AVal.int IntKind.i64 (Vl.n (Opr.lo x)), AVal.str (Vl.s (Opr.lo x)), AVal.int IntKind.i64 (Vl.k (Opr.hi x)), AVal.int IntKind.i64 (Vl.n (Opr.hi x)), AVal.str (Vl.s (Opr.hi x)), AVal.slice (ndv (Opr.nodes x)) 8 Tag.ro, AVal.slice (lkv (Opr.links x)) 3 Tag.ro]), (6, AObj.cells [AVal.int IntKind.i64 (Opr.k y), AVal.bool (Opr.edge y), AVal.bool (Opr.out y), AVal.int IntKind.i64 (Opr.id y), AVal.int IntKind.i64 (Opr.fr y), AVal.int IntKind.i64 (Opr.tw y), AVal.int IntKind.i64 (Opr.most y), AVal.int IntKind.i64 (Opr.steps y), AVal.str (Opr.label y), AVal.str (Opr.key y), AVal.slice (prv (Opr.props y)) 4 Tag.ro, AVal.slice (strv (Opr.keys y)) 1 Tag.ro, AVal.int IntKind.i64 (Vl.k (Opr.lo y)), AVal.int IntKind.i64 (Vl.n (Opr.lo y)), AVal.str (Vl.s (Opr.lo y)), AVal.int IntKind.i64 (Vl.k (Opr.hi y)), AVal.int IntKind.i64 (Vl.n (Opr.hi y)), AVal.str (Vl.s (Opr.hi y)), AVal.slice (ndv (Opr.nodes y)) 8 Tag.ro, AVal.slice (lkv (Opr.links y)) 3 Tag.ro])] Sto.empty))) (K Exit.ret (St.mk 193 [(5, AVal.ptr (Oid.loc 5) 0), (6, AVal.ptr (Oid.loc 6) 0), (132, AVal.bool true), (4, AVal.bool false)] [] [(5, AObj.cells [AVal.int IntKind.i64 (Opr.k x), AVal.bool (Opr.edge x), AVal.bool (Opr.out x), AVal.int IntKind.i64 (Opr.id x), AVal.int IntKind.i64 (Opr.fr x), AVal.int IntKind.i64 (Opr.tw x), AVal.int IntKind.i64 (Opr.most x), AVal.int IntKind.i64 (Opr.steps x), AVal.str (Opr.label x), AVal.str (Opr.key x), AVal.slice (prv (Opr.props x)) 4 Tag.ro, AVal.slice (strv (Opr.keys x)) 1 Tag.ro, AVal.int IntKind.i64 (Vl.k (Opr.lo x)), AVal.int IntKind.i64 (Vl.n (Opr.lo x)), AVal.str (Vl.s (Opr.lo x)), AVal.int IntKind.i64 (Vl.k (Opr.hi x)), AVal.int IntKind.i64 (Vl.n (Opr.hi x)), AVal.str (Vl.s (Opr.hi x)), AVal.slice (ndv (Opr.nodes x)) 8 Tag.ro, AVal.slice (lkv (Opr.links x)) 3 Tag.ro]), (6, AObj.cells [AVal.int IntKind.i64 (Opr.k y), AVal.bool (Opr.edge y), AVal.bool (Opr.out y), AVal.int IntKind.i64 (Opr.id y), AVal.int IntKind.i64 (Opr.fr y), AVal.int IntKind.i64 (Opr.tw y), AVal.int IntKind.i64 (Opr.most y), AVal.int IntKind.i64 (Opr.steps y), AVal.str (Opr.label y), AVal.str (Opr.key y), AVal.slice (prv (Opr.props y)) 4 Tag.ro, AVal.slice (strv (Opr.keys y)) 1 Tag.ro, AVal.int IntKind.i64 (Vl.k (Opr.lo y)), AVal.int IntKind.i64 (Vl.n (Opr.lo y)), AVal.str (Vl.s (Opr.lo y)), AVal.int IntKind.i64 (Vl.k (Opr.hi y)), AVal.int IntKind.i64 (Vl.n (Opr.hi y)), AVal.str (Vl.s (Opr.hi y)), AVal.slice (ndv (Opr.nodes y)) 8 Tag.ro, AVal.slice (lkv (Opr.links y)) 3 Tag.ro])] Sto.empty))) (K Exit.ret (St.mk 193 [(5, AVal.ptr (Oid.loc 5) 0), (6, AVal.ptr (Oid.loc 6) 0), (132, AVal.bool true), (4, AVal.bool false)] [] [(5, AObj.cells [AVal.int IntKind.i64 (Opr.k x), AVal.bool (Opr.edge x), AVal.bool (Opr.out x), AVal.int IntKind.i64 (Opr.id x), AVal.int IntKind.i64 (Opr.fr x), AVal.int IntKind.i64 (Opr.tw x), AVal.int IntKind.i64 (Opr.most x), AVal.int IntKind.i64 (Opr.steps x), AVal.str (Opr.label x), AVal.str (Opr.key x), AVal.slice (prv (Opr.props x)) 4 Tag.ro, AVal.slice (strv (Opr.keys x)) 1 Tag.ro, AVal.int IntKind.i64 (Vl.k (Opr.lo x)), AVal.int IntKind.i64 (Vl.n (Opr.lo x)), AVal.str (Vl.s (Opr.lo x)), AVal.int IntKind.i64 (Vl.k (Opr.hi x)), AVal.int IntKind.i64 (Vl.n (Opr.hi x)), AVal.str (Vl.s (Opr.hi x)), AVal.slice (ndv (Opr.nodes x)) 8 Tag.ro, AVal.slice (lkv (Opr.links x)) 3 Tag.ro]), (6, AObj.cells [AVal.int IntKind.i64 (Opr.k y), AVal.bool (Opr.edge y), AVal.bool (Opr.out y), AVal.int IntKind.i64 (Opr.id y), AVal.int IntKind.i64 (Opr.fr y), AVal.int IntKind.i64 (Opr.tw y), AVal.int IntKind.i64 (Opr.most y), AVal.int IntKind.i64 (Opr.steps y), AVal.str (Opr.label y), AVal.str (Opr.key y), AVal.slice (prv (Opr.props y)) 4 Tag.ro, AVal.slice (strv (Opr.keys y)) 1 Tag.ro, AVal.int IntKind.i64 (Vl.k (Opr.lo y)), AVal.int IntKind.i64 (Vl.n (Opr.lo y)), AVal.str (Vl.s (Opr.lo y)), AVal.int IntKind.i64 (Vl.k (Opr.hi y)), AVal.int IntKind.i64 (Vl.n (Opr.hi y)), AVal.str (Vl.s (Opr.hi y)), AVal.slice (ndv (Opr.nodes y)) 8 Tag.ro, AVal.slice (lkv (Opr.links y)) 3 Tag.ro])] Sto.empty))) (K Exit.ret (St.mk 193 [(5, AVal.ptr (Oid.loc 5) 0), (6, AVal.ptr (Oid.loc 6) 0), (132, AVal.bool true), (4, AVal.bool false)] [] [(5, AObj.cells [AVal.int IntKind.i64 (Opr.k x), AVal.bool (Opr.edge x), AVal.bool (Opr.out x), AVal.int IntKind.i64 (Opr.id x), AVal.int IntKind.i64 (Opr.fr x), AVal.int IntKind.i64 (Opr.tw x), AVal.int IntKind.i64 (Opr.most x), AVal.int IntKind.i64 (Opr.steps x), AVal.str (Opr.label x), AVal.str (Opr.key x), AVal.slice (prv (Opr.props x)) 4 Tag.ro, AVal.slice (strv (Opr.keys x)) 1 Tag.ro, AVal.int IntKind.i64 (Vl.k (Opr.lo x)), AVal.int IntKind.i64 (Vl.n (Opr.lo x)), AVal.str (Vl.s (Opr.lo x)), AVal.int IntKind.i64 (Vl.k (Opr.hi x)), AVal.int IntKind.i64 (Vl.n (Opr.hi x)), AVal.str (Vl.s (Opr.hi x)), AVal.slice (ndv (Opr.nodes x)) 8 Tag.ro, AVal.slice (lkv (Opr.links x)) 3 Tag.ro]), (6, AObj.cells [AVal.int IntKind.i64 (Opr.k y), AVal.bool (Opr.edge y), AVal.bool (Opr.out y), AVal.int IntKind.i64 (Opr.id y), AVal.int IntKind.i64 (Opr.fr y), AVal.int IntKind.i64 (Opr.tw y), AVal.int IntKind.i64 (Opr.most y), AVal.int IntKind.i64 (Opr.steps y), AVal.str (Opr.label y), AVal.str (Opr.key y), AVal.slice (prv (Opr.props y)) 4 Tag.ro, AVal.slice (strv (Opr.keys y)) 1 Tag.ro, AVal.int IntKind.i64 (Vl.k (Opr.lo y)), AVal.int IntKind.i64 (Vl.n (Opr.lo y)), AVal.str (Vl.s (Opr.lo y)), AVal.int IntKind.i64 (Vl.k (Opr.hi y)), AVal.int IntKind.i64 (Vl.n (Opr.hi y)), AVal.str (Vl.s (Opr.hi y)), AVal.slice (ndv (Opr.nodes y)) 8 Tag.ro, AVal.slice (lkv (Opr.links y)) 3 Tag.ro])] Sto.empty)))) := by kernel_rfl
noncomputable def rsB_S (x y : Opr) : St := St.mk 193 [(5, .ptr (.loc 5) 0), (6, .ptr (.loc 6) 0)] [] [(5, .cells (Opr.cs x)), (6, .cells (Opr.cs y))] (Sto.empty)
noncomputable abbrev rsB_C : Code := code_7_1_1_1_1_1
theorem rsB_r (x y : Opr) (K : Exit → St → Prop) : vc Tryd.prog cRSame code_7_1_1_1_1_1 K (St.mk 193 [(5, .ptr (.loc 5) 0), (6, .ptr (.loc 6) 0)] [] [(5, .cells (Opr.cs x)), (6, .cells (Opr.cs y))] (Sto.empty)) =
  (loopV (fun s => St.norm [] [5, 6, 7] [5, 6] s) (vc Tryd.prog cRSame code_7_1_1_1_1_1_0_1_0_0) (blockK 0 (thenK (fun s => cutV (vc Tryd.prog cRSame code_7_1_1_1_1_1_1 K) (St.norm [] [5, 6] [5, 6] s)) K)) (St.mk 193 [(5, AVal.ptr (Oid.loc 5) 0), (6, AVal.ptr (Oid.loc 6) 0), (7, AVal.int IntKind.i64 (0 : Int))] [] [(5, AObj.cells [AVal.int IntKind.i64 (Opr.k x), AVal.bool (Opr.edge x), AVal.bool (Opr.out x), AVal.int IntKind.i64 (Opr.id x), AVal.int IntKind.i64 (Opr.fr x), AVal.int IntKind.i64 (Opr.tw x), AVal.int IntKind.i64 (Opr.most x), AVal.int IntKind.i64 (Opr.steps x), AVal.str (Opr.label x), AVal.str (Opr.key x), AVal.slice (prv (Opr.props x)) 4 Tag.ro, AVal.slice (strv (Opr.keys x)) 1 Tag.ro, AVal.int IntKind.i64 (Vl.k (Opr.lo x)), AVal.int IntKind.i64 (Vl.n (Opr.lo x)), AVal.str (Vl.s (Opr.lo x)), AVal.int IntKind.i64 (Vl.k (Opr.hi x)), AVal.int IntKind.i64 (Vl.n (Opr.hi x)), AVal.str (Vl.s (Opr.hi x)), AVal.slice (ndv (Opr.nodes x)) 8 Tag.ro, AVal.slice (lkv (Opr.links x)) 3 Tag.ro]), (6, AObj.cells [AVal.int IntKind.i64 (Opr.k y), AVal.bool (Opr.edge y), AVal.bool (Opr.out y), AVal.int IntKind.i64 (Opr.id y), AVal.int IntKind.i64 (Opr.fr y), AVal.int IntKind.i64 (Opr.tw y), AVal.int IntKind.i64 (Opr.most y), AVal.int IntKind.i64 (Opr.steps y), AVal.str (Opr.label y), AVal.str (Opr.key y), AVal.slice (prv (Opr.props y)) 4 Tag.ro, AVal.slice (strv (Opr.keys y)) 1 Tag.ro, AVal.int IntKind.i64 (Vl.k (Opr.lo y)), AVal.int IntKind.i64 (Vl.n (Opr.lo y)), AVal.str (Vl.s (Opr.lo y)), AVal.int IntKind.i64 (Vl.k (Opr.hi y)), AVal.int IntKind.i64 (Vl.n (Opr.hi y)), AVal.str (Vl.s (Opr.hi y)), AVal.slice (ndv (Opr.nodes y)) 8 Tag.ro, AVal.slice (lkv (Opr.links y)) 3 Tag.ro])] Sto.empty)) := by kernel_rfl
noncomputable def rsK_S (x y : Opr) (i : Nat) : St := St.mk 193 [(5, .ptr (.loc 5) 0), (6, .ptr (.loc 6) 0), (7, .int .i64 (i : Int))] [] [(5, .cells (Opr.cs x)), (6, .cells (Opr.cs y))] (Sto.empty)
noncomputable abbrev rsK_C : Code := code_7_1_1_1_1_1_0_1_0_0
theorem rsK_r (x y : Opr) (i : Nat) (L : St → Prop) (K : Exit → St → Prop) : vc Tryd.prog cRSame code_7_1_1_1_1_1_0_1_0_0 (thenK (fun s => L (St.norm [] [5, 6, 7] [5, 6] s)) K) (St.mk 193 [(5, .ptr (.loc 5) 0), (6, .ptr (.loc 6) 0), (7, .int .i64 (i : Int))] [] [(5, .cells (Opr.cs x)), (6, .cells (Opr.cs y))] (Sto.empty)) =
  (brV (hold (decide ((↑i : Int) < (↑(List.length (strv (Opr.keys x))) : Int)))) true (gb (decide ((0 : Int) ≤ (↑i : Int) ∧ (↑i : Int) < (↑(List.length (strv (Opr.keys x))) : Int))) (gb (decide (1 ≤ List.length (elemAt (strv (Opr.keys x)) (↑i : Int)) ∧ 0 < 1) && etaOk Sh.str (List.getD (elemAt (strv (Opr.keys x)) (↑i : Int)) 0 AVal.undef)) (gb (decide ((0 : Int) ≤ (↑i : Int) ∧ (↑i : Int) < (↑(List.length (strv (Opr.keys y))) : Int))) (gb (decide (1 ≤ List.length (elemAt (strv (Opr.keys y)) (↑i : Int)) ∧ 0 < 1) && etaOk Sh.str (List.getD (elemAt (strv (Opr.keys y)) (↑i : Int)) 0 AVal.undef)) (brV (hold !AVal.strOf (List.getD (elemAt (strv (Opr.keys x)) (↑i : Int)) 0 AVal.undef) == AVal.strOf (List.getD (elemAt (strv (Opr.keys y)) (↑i : Int)) 0 AVal.undef)) true (K Exit.ret (St.mk 193 [(5, AVal.ptr (Oid.loc 5) 0), (6, AVal.ptr (Oid.loc 6) 0), (7, AVal.int IntKind.i64 (↑i : Int)), (137, AVal.bool (hold (decide ((↑i : Int) < (↑(List.length (strv (Opr.keys x))) : Int))))), (150, AVal.bool (hold !AVal.strOf (List.getD (elemAt (strv (Opr.keys x)) (↑i : Int)) 0 AVal.undef) == AVal.strOf (List.getD (elemAt (strv (Opr.keys y)) (↑i : Int)) 0 AVal.undef))), (4, AVal.bool false)] [] [(5, AObj.cells [AVal.int IntKind.i64 (Opr.k x), AVal.bool (Opr.edge x), AVal.bool (Opr.out x), AVal.int IntKind.i64 (Opr.id x), AVal.int IntKind.i64 (Opr.fr x), AVal.int IntKind.i64 (Opr.tw x), AVal.int IntKind.i64 (Opr.most x), AVal.int IntKind.i64 (Opr.steps x), AVal.str (Opr.label x), AVal.str (Opr.key x), AVal.slice (prv (Opr.props x)) 4 Tag.ro, AVal.slice (strv (Opr.keys x)) 1 Tag.ro, AVal.int IntKind.i64 (Vl.k (Opr.lo x)), AVal.int IntKind.i64 (Vl.n (Opr.lo x)), AVal.str (Vl.s (Opr.lo x)), AVal.int IntKind.i64 (Vl.k (Opr.hi x)), AVal.int IntKind.i64 (Vl.n (Opr.hi x)), AVal.str (Vl.s (Opr.hi x)), AVal.slice (ndv (Opr.nodes x)) 8 Tag.ro, AVal.slice (lkv (Opr.links x)) 3 Tag.ro]), (6, AObj.cells [AVal.int IntKind.i64 (Opr.k y), AVal.bool (Opr.edge y), AVal.bool (Opr.out y), AVal.int IntKind.i64 (Opr.id y), AVal.int IntKind.i64 (Opr.fr y), AVal.int IntKind.i64 (Opr.tw y), AVal.int IntKind.i64 (Opr.most y), AVal.int IntKind.i64 (Opr.steps y), AVal.str (Opr.label y), AVal.str (Opr.key y), AVal.slice (prv (Opr.props y)) 4 Tag.ro, AVal.slice (strv (Opr.keys y)) 1 Tag.ro, AVal.int IntKind.i64 (Vl.k (Opr.lo y)), AVal.int IntKind.i64 (Vl.n (Opr.lo y)), AVal.str (Vl.s (Opr.lo y)), AVal.int IntKind.i64 (Vl.k (Opr.hi y)), AVal.int IntKind.i64 (Vl.n (Opr.hi y)), AVal.str (Vl.s (Opr.hi y)), AVal.slice (ndv (Opr.nodes y)) 8 Tag.ro, AVal.slice (lkv (Opr.links y)) 3 Tag.ro])] Sto.empty)) (L (St.mk 193 [(5, AVal.ptr (Oid.loc 5) 0), (6, AVal.ptr (Oid.loc 6) 0), (7, AVal.int IntKind.i64 (IntKind.wrap IntKind.i64 ((↑i : Int) + (1 : Int))))] [] [(5, AObj.cells [AVal.int IntKind.i64 (Opr.k x), AVal.bool (Opr.edge x), AVal.bool (Opr.out x), AVal.int IntKind.i64 (Opr.id x), AVal.int IntKind.i64 (Opr.fr x), AVal.int IntKind.i64 (Opr.tw x), AVal.int IntKind.i64 (Opr.most x), AVal.int IntKind.i64 (Opr.steps x), AVal.str (Opr.label x), AVal.str (Opr.key x), AVal.slice (prv (Opr.props x)) 4 Tag.ro, AVal.slice (strv (Opr.keys x)) 1 Tag.ro, AVal.int IntKind.i64 (Vl.k (Opr.lo x)), AVal.int IntKind.i64 (Vl.n (Opr.lo x)), AVal.str (Vl.s (Opr.lo x)), AVal.int IntKind.i64 (Vl.k (Opr.hi x)), AVal.int IntKind.i64 (Vl.n (Opr.hi x)), AVal.str (Vl.s (Opr.hi x)), AVal.slice (ndv (Opr.nodes x)) 8 Tag.ro, AVal.slice (lkv (Opr.links x)) 3 Tag.ro]), (6, AObj.cells [AVal.int IntKind.i64 (Opr.k y), AVal.bool (Opr.edge y), AVal.bool (Opr.out y), AVal.int IntKind.i64 (Opr.id y), AVal.int IntKind.i64 (Opr.fr y), AVal.int IntKind.i64 (Opr.tw y), AVal.int IntKind.i64 (Opr.most y), AVal.int IntKind.i64 (Opr.steps y), AVal.str (Opr.label y), AVal.str (Opr.key y), AVal.slice (prv (Opr.props y)) 4 Tag.ro, AVal.slice (strv (Opr.keys y)) 1 Tag.ro, AVal.int IntKind.i64 (Vl.k (Opr.lo y)), AVal.int IntKind.i64 (Vl.n (Opr.lo y)), AVal.str (Vl.s (Opr.lo y)), AVal.int IntKind.i64 (Vl.k (Opr.hi y)), AVal.int IntKind.i64 (Vl.n (Opr.hi y)), AVal.str (Vl.s (Opr.hi y)), AVal.slice (ndv (Opr.nodes y)) 8 Tag.ro, AVal.slice (lkv (Opr.links y)) 3 Tag.ro])] Sto.empty))))))) (K (Exit.exit 0) (St.mk 193 [(5, AVal.ptr (Oid.loc 5) 0), (6, AVal.ptr (Oid.loc 6) 0), (7, AVal.int IntKind.i64 (↑i : Int)), (137, AVal.bool (hold (decide ((↑i : Int) < (↑(List.length (strv (Opr.keys x))) : Int)))))] [] [(5, AObj.cells [AVal.int IntKind.i64 (Opr.k x), AVal.bool (Opr.edge x), AVal.bool (Opr.out x), AVal.int IntKind.i64 (Opr.id x), AVal.int IntKind.i64 (Opr.fr x), AVal.int IntKind.i64 (Opr.tw x), AVal.int IntKind.i64 (Opr.most x), AVal.int IntKind.i64 (Opr.steps x), AVal.str (Opr.label x), AVal.str (Opr.key x), AVal.slice (prv (Opr.props x)) 4 Tag.ro, AVal.slice (strv (Opr.keys x)) 1 Tag.ro, AVal.int IntKind.i64 (Vl.k (Opr.lo x)), AVal.int IntKind.i64 (Vl.n (Opr.lo x)), AVal.str (Vl.s (Opr.lo x)), AVal.int IntKind.i64 (Vl.k (Opr.hi x)), AVal.int IntKind.i64 (Vl.n (Opr.hi x)), AVal.str (Vl.s (Opr.hi x)), AVal.slice (ndv (Opr.nodes x)) 8 Tag.ro, AVal.slice (lkv (Opr.links x)) 3 Tag.ro]), (6, AObj.cells [AVal.int IntKind.i64 (Opr.k y), AVal.bool (Opr.edge y), AVal.bool (Opr.out y), AVal.int IntKind.i64 (Opr.id y), AVal.int IntKind.i64 (Opr.fr y), AVal.int IntKind.i64 (Opr.tw y), AVal.int IntKind.i64 (Opr.most y), AVal.int IntKind.i64 (Opr.steps y), AVal.str (Opr.label y), AVal.str (Opr.key y), AVal.slice (prv (Opr.props y)) 4 Tag.ro, AVal.slice (strv (Opr.keys y)) 1 Tag.ro, AVal.int IntKind.i64 (Vl.k (Opr.lo y)), AVal.int IntKind.i64 (Vl.n (Opr.lo y)), AVal.str (Vl.s (Opr.lo y)), AVal.int IntKind.i64 (Vl.k (Opr.hi y)), AVal.int IntKind.i64 (Vl.n (Opr.hi y)), AVal.str (Vl.s (Opr.hi y)), AVal.slice (ndv (Opr.nodes y)) 8 Tag.ro, AVal.slice (lkv (Opr.links y)) 3 Tag.ro])] Sto.empty))) := by kernel_rfl
noncomputable def rsM_S (x y : Opr) : St := St.mk 193 [(5, .ptr (.loc 5) 0), (6, .ptr (.loc 6) 0)] [] [(5, .cells (Opr.cs x)), (6, .cells (Opr.cs y))] (Sto.empty)
noncomputable abbrev rsM_C : Code := code_7_1_1_1_1_1_1
theorem rsM_r (x y : Opr) (K : Exit → St → Prop) : vc Tryd.prog cRSame code_7_1_1_1_1_1_1 K (St.mk 193 [(5, .ptr (.loc 5) 0), (6, .ptr (.loc 6) 0)] [] [(5, .cells (Opr.cs x)), (6, .cells (Opr.cs y))] (Sto.empty)) =
  (loopV (fun s => St.norm [] [5, 6, 8] [5, 6] s) (vc Tryd.prog cRSame code_7_1_1_1_1_1_1_0_1_0_0) (blockK 2 (thenK (fun s => cutV (vc Tryd.prog cRSame code_7_1_1_1_1_1_1_1 K) (St.norm [] [5, 6] [5, 6] s)) K)) (St.mk 193 [(5, AVal.ptr (Oid.loc 5) 0), (6, AVal.ptr (Oid.loc 6) 0), (8, AVal.int IntKind.i64 (0 : Int))] [] [(5, AObj.cells [AVal.int IntKind.i64 (Opr.k x), AVal.bool (Opr.edge x), AVal.bool (Opr.out x), AVal.int IntKind.i64 (Opr.id x), AVal.int IntKind.i64 (Opr.fr x), AVal.int IntKind.i64 (Opr.tw x), AVal.int IntKind.i64 (Opr.most x), AVal.int IntKind.i64 (Opr.steps x), AVal.str (Opr.label x), AVal.str (Opr.key x), AVal.slice (prv (Opr.props x)) 4 Tag.ro, AVal.slice (strv (Opr.keys x)) 1 Tag.ro, AVal.int IntKind.i64 (Vl.k (Opr.lo x)), AVal.int IntKind.i64 (Vl.n (Opr.lo x)), AVal.str (Vl.s (Opr.lo x)), AVal.int IntKind.i64 (Vl.k (Opr.hi x)), AVal.int IntKind.i64 (Vl.n (Opr.hi x)), AVal.str (Vl.s (Opr.hi x)), AVal.slice (ndv (Opr.nodes x)) 8 Tag.ro, AVal.slice (lkv (Opr.links x)) 3 Tag.ro]), (6, AObj.cells [AVal.int IntKind.i64 (Opr.k y), AVal.bool (Opr.edge y), AVal.bool (Opr.out y), AVal.int IntKind.i64 (Opr.id y), AVal.int IntKind.i64 (Opr.fr y), AVal.int IntKind.i64 (Opr.tw y), AVal.int IntKind.i64 (Opr.most y), AVal.int IntKind.i64 (Opr.steps y), AVal.str (Opr.label y), AVal.str (Opr.key y), AVal.slice (prv (Opr.props y)) 4 Tag.ro, AVal.slice (strv (Opr.keys y)) 1 Tag.ro, AVal.int IntKind.i64 (Vl.k (Opr.lo y)), AVal.int IntKind.i64 (Vl.n (Opr.lo y)), AVal.str (Vl.s (Opr.lo y)), AVal.int IntKind.i64 (Vl.k (Opr.hi y)), AVal.int IntKind.i64 (Vl.n (Opr.hi y)), AVal.str (Vl.s (Opr.hi y)), AVal.slice (ndv (Opr.nodes y)) 8 Tag.ro, AVal.slice (lkv (Opr.links y)) 3 Tag.ro])] Sto.empty)) := by kernel_rfl
noncomputable def rsN_S (x y : Opr) (i : Nat) : St := St.mk 193 [(5, .ptr (.loc 5) 0), (6, .ptr (.loc 6) 0), (8, .int .i64 (i : Int))] [] [(5, .cells (Opr.cs x)), (6, .cells (Opr.cs y))] (Sto.empty)
noncomputable abbrev rsN_C : Code := code_7_1_1_1_1_1_1_0_1_0_0
theorem rsN_r (x y : Opr) (i : Nat) (L : St → Prop) (K : Exit → St → Prop) : vc Tryd.prog cRSame code_7_1_1_1_1_1_1_0_1_0_0 (thenK (fun s => L (St.norm [] [5, 6, 8] [5, 6] s)) K) (St.mk 193 [(5, .ptr (.loc 5) 0), (6, .ptr (.loc 6) 0), (8, .int .i64 (i : Int))] [] [(5, .cells (Opr.cs x)), (6, .cells (Opr.cs y))] (Sto.empty)) =
  (brV (hold (decide ((↑i : Int) < (↑(List.length (ndv (Opr.nodes x))) : Int)))) true (gb (decide ((0 : Int) ≤ (↑i : Int) ∧ (↑i : Int) < (↑(List.length (ndv (Opr.nodes x))) : Int))) (gb (decide (8 ≤ List.length (elemAt (ndv (Opr.nodes x)) (↑i : Int)) ∧ 0 < 8) && (etaOk Sh.str (List.getD (elemAt (ndv (Opr.nodes x)) (↑i : Int)) 0 AVal.undef) && (etaOk Sh.str (List.getD (elemAt (ndv (Opr.nodes x)) (↑i : Int)) 1 AVal.undef) && (etaOk (Sh.int IntKind.i64) (List.getD (elemAt (ndv (Opr.nodes x)) (↑i : Int)) 2 AVal.undef) && (etaOk (Sh.int IntKind.i64) (List.getD (elemAt (ndv (Opr.nodes x)) (↑i : Int)) 3 AVal.undef) && (etaOk Sh.str (List.getD (elemAt (ndv (Opr.nodes x)) (↑i : Int)) 4 AVal.undef) && (etaOk (Sh.int IntKind.i64) (List.getD (elemAt (ndv (Opr.nodes x)) (↑i : Int)) 5 AVal.undef) && (etaOk (Sh.int IntKind.i64) (List.getD (elemAt (ndv (Opr.nodes x)) (↑i : Int)) 6 AVal.undef) && (etaOk Sh.str (List.getD (elemAt (ndv (Opr.nodes x)) (↑i : Int)) 7 AVal.undef) && true))))))))) (gb (decide ((0 : Int) ≤ (↑i : Int) ∧ (↑i : Int) < (↑(List.length (ndv (Opr.nodes y))) : Int))) (gb (decide (8 ≤ List.length (elemAt (ndv (Opr.nodes y)) (↑i : Int)) ∧ 0 < 8) && (etaOk Sh.str (List.getD (elemAt (ndv (Opr.nodes y)) (↑i : Int)) 0 AVal.undef) && (etaOk Sh.str (List.getD (elemAt (ndv (Opr.nodes y)) (↑i : Int)) 1 AVal.undef) && (etaOk (Sh.int IntKind.i64) (List.getD (elemAt (ndv (Opr.nodes y)) (↑i : Int)) 2 AVal.undef) && (etaOk (Sh.int IntKind.i64) (List.getD (elemAt (ndv (Opr.nodes y)) (↑i : Int)) 3 AVal.undef) && (etaOk Sh.str (List.getD (elemAt (ndv (Opr.nodes y)) (↑i : Int)) 4 AVal.undef) && (etaOk (Sh.int IntKind.i64) (List.getD (elemAt (ndv (Opr.nodes y)) (↑i : Int)) 5 AVal.undef) && (etaOk (Sh.int IntKind.i64) (List.getD (elemAt (ndv (Opr.nodes y)) (↑i : Int)) 6 AVal.undef) && (etaOk Sh.str (List.getD (elemAt (ndv (Opr.nodes y)) (↑i : Int)) 7 AVal.undef) && true))))))))) (brV (!hold (AVal.strOf (List.getD (elemAt (ndv (Opr.nodes x)) (↑i : Int)) 0 AVal.undef) == AVal.strOf (List.getD (elemAt (ndv (Opr.nodes y)) (↑i : Int)) 0 AVal.undef) && (AVal.strOf (List.getD (elemAt (ndv (Opr.nodes x)) (↑i : Int)) 1 AVal.undef) == AVal.strOf (List.getD (elemAt (ndv (Opr.nodes y)) (↑i : Int)) 1 AVal.undef) && (AVal.intOf (List.getD (elemAt (ndv (Opr.nodes x)) (↑i : Int)) 2 AVal.undef) == AVal.intOf (List.getD (elemAt (ndv (Opr.nodes y)) (↑i : Int)) 2 AVal.undef) && (AVal.intOf (List.getD (elemAt (ndv (Opr.nodes x)) (↑i : Int)) 3 AVal.undef) == AVal.intOf (List.getD (elemAt (ndv (Opr.nodes y)) (↑i : Int)) 3 AVal.undef) && (AVal.strOf (List.getD (elemAt (ndv (Opr.nodes x)) (↑i : Int)) 4 AVal.undef) == AVal.strOf (List.getD (elemAt (ndv (Opr.nodes y)) (↑i : Int)) 4 AVal.undef) && (AVal.intOf (List.getD (elemAt (ndv (Opr.nodes x)) (↑i : Int)) 5 AVal.undef) == AVal.intOf (List.getD (elemAt (ndv (Opr.nodes y)) (↑i : Int)) 5 AVal.undef) && (AVal.intOf (List.getD (elemAt (ndv (Opr.nodes x)) (↑i : Int)) 6 AVal.undef) == AVal.intOf (List.getD (elemAt (ndv (Opr.nodes y)) (↑i : Int)) 6 AVal.undef) && (AVal.strOf (List.getD (elemAt (ndv (Opr.nodes x)) (↑i : Int)) 7 AVal.undef) == AVal.strOf (List.getD (elemAt (ndv (Opr.nodes y)) (↑i : Int)) 7 AVal.undef) && true))))))))) true (K Exit.ret (St.mk 193 [(5, AVal.ptr (Oid.loc 5) 0), (6, AVal.ptr (Oid.loc 6) 0), (8, AVal.int IntKind.i64 (↑i : Int)), (156, AVal.bool (hold (decide ((↑i : Int) < (↑(List.length (ndv (Opr.nodes x))) : Int))))), (171, AVal.bool !hold (AVal.strOf (List.getD (elemAt (ndv (Opr.nodes x)) (↑i : Int)) 0 AVal.undef) == AVal.strOf (List.getD (elemAt (ndv (Opr.nodes y)) (↑i : Int)) 0 AVal.undef) && (AVal.strOf (List.getD (elemAt (ndv (Opr.nodes x)) (↑i : Int)) 1 AVal.undef) == AVal.strOf (List.getD (elemAt (ndv (Opr.nodes y)) (↑i : Int)) 1 AVal.undef) && (AVal.intOf (List.getD (elemAt (ndv (Opr.nodes x)) (↑i : Int)) 2 AVal.undef) == AVal.intOf (List.getD (elemAt (ndv (Opr.nodes y)) (↑i : Int)) 2 AVal.undef) && (AVal.intOf (List.getD (elemAt (ndv (Opr.nodes x)) (↑i : Int)) 3 AVal.undef) == AVal.intOf (List.getD (elemAt (ndv (Opr.nodes y)) (↑i : Int)) 3 AVal.undef) && (AVal.strOf (List.getD (elemAt (ndv (Opr.nodes x)) (↑i : Int)) 4 AVal.undef) == AVal.strOf (List.getD (elemAt (ndv (Opr.nodes y)) (↑i : Int)) 4 AVal.undef) && (AVal.intOf (List.getD (elemAt (ndv (Opr.nodes x)) (↑i : Int)) 5 AVal.undef) == AVal.intOf (List.getD (elemAt (ndv (Opr.nodes y)) (↑i : Int)) 5 AVal.undef) && (AVal.intOf (List.getD (elemAt (ndv (Opr.nodes x)) (↑i : Int)) 6 AVal.undef) == AVal.intOf (List.getD (elemAt (ndv (Opr.nodes y)) (↑i : Int)) 6 AVal.undef) && (AVal.strOf (List.getD (elemAt (ndv (Opr.nodes x)) (↑i : Int)) 7 AVal.undef) == AVal.strOf (List.getD (elemAt (ndv (Opr.nodes y)) (↑i : Int)) 7 AVal.undef) && true))))))))), (4, AVal.bool false)] [] [(5, AObj.cells [AVal.int IntKind.i64 (Opr.k x), AVal.bool (Opr.edge x), AVal.bool (Opr.out x), AVal.int IntKind.i64 (Opr.id x), AVal.int IntKind.i64 (Opr.fr x), AVal.int IntKind.i64 (Opr.tw x), AVal.int IntKind.i64 (Opr.most x), AVal.int IntKind.i64 (Opr.steps x), AVal.str (Opr.label x), AVal.str (Opr.key x), AVal.slice (prv (Opr.props x)) 4 Tag.ro, AVal.slice (strv (Opr.keys x)) 1 Tag.ro, AVal.int IntKind.i64 (Vl.k (Opr.lo x)), AVal.int IntKind.i64 (Vl.n (Opr.lo x)), AVal.str (Vl.s (Opr.lo x)), AVal.int IntKind.i64 (Vl.k (Opr.hi x)), AVal.int IntKind.i64 (Vl.n (Opr.hi x)), AVal.str (Vl.s (Opr.hi x)), AVal.slice (ndv (Opr.nodes x)) 8 Tag.ro, AVal.slice (lkv (Opr.links x)) 3 Tag.ro]), (6, AObj.cells [AVal.int IntKind.i64 (Opr.k y), AVal.bool (Opr.edge y), AVal.bool (Opr.out y), AVal.int IntKind.i64 (Opr.id y), AVal.int IntKind.i64 (Opr.fr y), AVal.int IntKind.i64 (Opr.tw y), AVal.int IntKind.i64 (Opr.most y), AVal.int IntKind.i64 (Opr.steps y), AVal.str (Opr.label y), AVal.str (Opr.key y), AVal.slice (prv (Opr.props y)) 4 Tag.ro, AVal.slice (strv (Opr.keys y)) 1 Tag.ro, AVal.int IntKind.i64 (Vl.k (Opr.lo y)), AVal.int IntKind.i64 (Vl.n (Opr.lo y)), AVal.str (Vl.s (Opr.lo y)), AVal.int IntKind.i64 (Vl.k (Opr.hi y)), AVal.int IntKind.i64 (Vl.n (Opr.hi y)), AVal.str (Vl.s (Opr.hi y)), AVal.slice (ndv (Opr.nodes y)) 8 Tag.ro, AVal.slice (lkv (Opr.links y)) 3 Tag.ro])] Sto.empty)) (L (St.mk 193 [(5, AVal.ptr (Oid.loc 5) 0), (6, AVal.ptr (Oid.loc 6) 0), (8, AVal.int IntKind.i64 (IntKind.wrap IntKind.i64 ((↑i : Int) + (1 : Int))))] [] [(5, AObj.cells [AVal.int IntKind.i64 (Opr.k x), AVal.bool (Opr.edge x), AVal.bool (Opr.out x), AVal.int IntKind.i64 (Opr.id x), AVal.int IntKind.i64 (Opr.fr x), AVal.int IntKind.i64 (Opr.tw x), AVal.int IntKind.i64 (Opr.most x), AVal.int IntKind.i64 (Opr.steps x), AVal.str (Opr.label x), AVal.str (Opr.key x), AVal.slice (prv (Opr.props x)) 4 Tag.ro, AVal.slice (strv (Opr.keys x)) 1 Tag.ro, AVal.int IntKind.i64 (Vl.k (Opr.lo x)), AVal.int IntKind.i64 (Vl.n (Opr.lo x)), AVal.str (Vl.s (Opr.lo x)), AVal.int IntKind.i64 (Vl.k (Opr.hi x)), AVal.int IntKind.i64 (Vl.n (Opr.hi x)), AVal.str (Vl.s (Opr.hi x)), AVal.slice (ndv (Opr.nodes x)) 8 Tag.ro, AVal.slice (lkv (Opr.links x)) 3 Tag.ro]), (6, AObj.cells [AVal.int IntKind.i64 (Opr.k y), AVal.bool (Opr.edge y), AVal.bool (Opr.out y), AVal.int IntKind.i64 (Opr.id y), AVal.int IntKind.i64 (Opr.fr y), AVal.int IntKind.i64 (Opr.tw y), AVal.int IntKind.i64 (Opr.most y), AVal.int IntKind.i64 (Opr.steps y), AVal.str (Opr.label y), AVal.str (Opr.key y), AVal.slice (prv (Opr.props y)) 4 Tag.ro, AVal.slice (strv (Opr.keys y)) 1 Tag.ro, AVal.int IntKind.i64 (Vl.k (Opr.lo y)), AVal.int IntKind.i64 (Vl.n (Opr.lo y)), AVal.str (Vl.s (Opr.lo y)), AVal.int IntKind.i64 (Vl.k (Opr.hi y)), AVal.int IntKind.i64 (Vl.n (Opr.hi y)), AVal.str (Vl.s (Opr.hi y)), AVal.slice (ndv (Opr.nodes y)) 8 Tag.ro, AVal.slice (lkv (Opr.links y)) 3 Tag.ro])] Sto.empty))))))) (K (Exit.exit 2) (St.mk 193 [(5, AVal.ptr (Oid.loc 5) 0), (6, AVal.ptr (Oid.loc 6) 0), (8, AVal.int IntKind.i64 (↑i : Int)), (156, AVal.bool (hold (decide ((↑i : Int) < (↑(List.length (ndv (Opr.nodes x))) : Int)))))] [] [(5, AObj.cells [AVal.int IntKind.i64 (Opr.k x), AVal.bool (Opr.edge x), AVal.bool (Opr.out x), AVal.int IntKind.i64 (Opr.id x), AVal.int IntKind.i64 (Opr.fr x), AVal.int IntKind.i64 (Opr.tw x), AVal.int IntKind.i64 (Opr.most x), AVal.int IntKind.i64 (Opr.steps x), AVal.str (Opr.label x), AVal.str (Opr.key x), AVal.slice (prv (Opr.props x)) 4 Tag.ro, AVal.slice (strv (Opr.keys x)) 1 Tag.ro, AVal.int IntKind.i64 (Vl.k (Opr.lo x)), AVal.int IntKind.i64 (Vl.n (Opr.lo x)), AVal.str (Vl.s (Opr.lo x)), AVal.int IntKind.i64 (Vl.k (Opr.hi x)), AVal.int IntKind.i64 (Vl.n (Opr.hi x)), AVal.str (Vl.s (Opr.hi x)), AVal.slice (ndv (Opr.nodes x)) 8 Tag.ro, AVal.slice (lkv (Opr.links x)) 3 Tag.ro]), (6, AObj.cells [AVal.int IntKind.i64 (Opr.k y), AVal.bool (Opr.edge y), AVal.bool (Opr.out y), AVal.int IntKind.i64 (Opr.id y), AVal.int IntKind.i64 (Opr.fr y), AVal.int IntKind.i64 (Opr.tw y), AVal.int IntKind.i64 (Opr.most y), AVal.int IntKind.i64 (Opr.steps y), AVal.str (Opr.label y), AVal.str (Opr.key y), AVal.slice (prv (Opr.props y)) 4 Tag.ro, AVal.slice (strv (Opr.keys y)) 1 Tag.ro, AVal.int IntKind.i64 (Vl.k (Opr.lo y)), AVal.int IntKind.i64 (Vl.n (Opr.lo y)), AVal.str (Vl.s (Opr.lo y)), AVal.int IntKind.i64 (Vl.k (Opr.hi y)), AVal.int IntKind.i64 (Vl.n (Opr.hi y)), AVal.str (Vl.s (Opr.hi y)), AVal.slice (ndv (Opr.nodes y)) 8 Tag.ro, AVal.slice (lkv (Opr.links y)) 3 Tag.ro])] Sto.empty))) := by kernel_rfl
noncomputable def rsP_S (x y : Opr) : St := St.mk 193 [(5, .ptr (.loc 5) 0), (6, .ptr (.loc 6) 0)] [] [(5, .cells (Opr.cs x)), (6, .cells (Opr.cs y))] (Sto.empty)
noncomputable abbrev rsP_C : Code := code_7_1_1_1_1_1_1_1
theorem rsP_r (x y : Opr) (K : Exit → St → Prop) : vc Tryd.prog cRSame code_7_1_1_1_1_1_1_1 K (St.mk 193 [(5, .ptr (.loc 5) 0), (6, .ptr (.loc 6) 0)] [] [(5, .cells (Opr.cs x)), (6, .cells (Opr.cs y))] (Sto.empty)) =
  (loopV (fun s => St.norm [] [5, 6, 9] [5, 6] s) (vc Tryd.prog cRSame code_7_1_1_1_1_1_1_1_0_1_0_0) (blockK 4 (thenK (vc Tryd.prog cRSame code_7_1_1_1_1_1_1_1_1 K) K)) (St.mk 193 [(5, AVal.ptr (Oid.loc 5) 0), (6, AVal.ptr (Oid.loc 6) 0), (9, AVal.int IntKind.i64 (0 : Int))] [] [(5, AObj.cells [AVal.int IntKind.i64 (Opr.k x), AVal.bool (Opr.edge x), AVal.bool (Opr.out x), AVal.int IntKind.i64 (Opr.id x), AVal.int IntKind.i64 (Opr.fr x), AVal.int IntKind.i64 (Opr.tw x), AVal.int IntKind.i64 (Opr.most x), AVal.int IntKind.i64 (Opr.steps x), AVal.str (Opr.label x), AVal.str (Opr.key x), AVal.slice (prv (Opr.props x)) 4 Tag.ro, AVal.slice (strv (Opr.keys x)) 1 Tag.ro, AVal.int IntKind.i64 (Vl.k (Opr.lo x)), AVal.int IntKind.i64 (Vl.n (Opr.lo x)), AVal.str (Vl.s (Opr.lo x)), AVal.int IntKind.i64 (Vl.k (Opr.hi x)), AVal.int IntKind.i64 (Vl.n (Opr.hi x)), AVal.str (Vl.s (Opr.hi x)), AVal.slice (ndv (Opr.nodes x)) 8 Tag.ro, AVal.slice (lkv (Opr.links x)) 3 Tag.ro]), (6, AObj.cells [AVal.int IntKind.i64 (Opr.k y), AVal.bool (Opr.edge y), AVal.bool (Opr.out y), AVal.int IntKind.i64 (Opr.id y), AVal.int IntKind.i64 (Opr.fr y), AVal.int IntKind.i64 (Opr.tw y), AVal.int IntKind.i64 (Opr.most y), AVal.int IntKind.i64 (Opr.steps y), AVal.str (Opr.label y), AVal.str (Opr.key y), AVal.slice (prv (Opr.props y)) 4 Tag.ro, AVal.slice (strv (Opr.keys y)) 1 Tag.ro, AVal.int IntKind.i64 (Vl.k (Opr.lo y)), AVal.int IntKind.i64 (Vl.n (Opr.lo y)), AVal.str (Vl.s (Opr.lo y)), AVal.int IntKind.i64 (Vl.k (Opr.hi y)), AVal.int IntKind.i64 (Vl.n (Opr.hi y)), AVal.str (Vl.s (Opr.hi y)), AVal.slice (ndv (Opr.nodes y)) 8 Tag.ro, AVal.slice (lkv (Opr.links y)) 3 Tag.ro])] Sto.empty)) := by kernel_rfl
noncomputable def rsL_S (x y : Opr) (i : Nat) : St := St.mk 193 [(5, .ptr (.loc 5) 0), (6, .ptr (.loc 6) 0), (9, .int .i64 (i : Int))] [] [(5, .cells (Opr.cs x)), (6, .cells (Opr.cs y))] (Sto.empty)
noncomputable abbrev rsL_C : Code := code_7_1_1_1_1_1_1_1_0_1_0_0
theorem rsL_r (x y : Opr) (i : Nat) (L : St → Prop) (K : Exit → St → Prop) : vc Tryd.prog cRSame code_7_1_1_1_1_1_1_1_0_1_0_0 (thenK (fun s => L (St.norm [] [5, 6, 9] [5, 6] s)) K) (St.mk 193 [(5, .ptr (.loc 5) 0), (6, .ptr (.loc 6) 0), (9, .int .i64 (i : Int))] [] [(5, .cells (Opr.cs x)), (6, .cells (Opr.cs y))] (Sto.empty)) =
  (brV (hold (decide ((↑i : Int) < (↑(List.length (lkv (Opr.links x))) : Int)))) true (gb (decide ((0 : Int) ≤ (↑i : Int) ∧ (↑i : Int) < (↑(List.length (lkv (Opr.links x))) : Int))) (gb (decide (3 ≤ List.length (elemAt (lkv (Opr.links x)) (↑i : Int)) ∧ 0 < 3) && (etaOk (Sh.int IntKind.i64) (List.getD (elemAt (lkv (Opr.links x)) (↑i : Int)) 0 AVal.undef) && (etaOk (Sh.int IntKind.i64) (List.getD (elemAt (lkv (Opr.links x)) (↑i : Int)) 1 AVal.undef) && (etaOk Sh.str (List.getD (elemAt (lkv (Opr.links x)) (↑i : Int)) 2 AVal.undef) && true)))) (gb (decide ((0 : Int) ≤ (↑i : Int) ∧ (↑i : Int) < (↑(List.length (lkv (Opr.links y))) : Int))) (gb (decide (3 ≤ List.length (elemAt (lkv (Opr.links y)) (↑i : Int)) ∧ 0 < 3) && (etaOk (Sh.int IntKind.i64) (List.getD (elemAt (lkv (Opr.links y)) (↑i : Int)) 0 AVal.undef) && (etaOk (Sh.int IntKind.i64) (List.getD (elemAt (lkv (Opr.links y)) (↑i : Int)) 1 AVal.undef) && (etaOk Sh.str (List.getD (elemAt (lkv (Opr.links y)) (↑i : Int)) 2 AVal.undef) && true)))) (brV (!hold (AVal.intOf (List.getD (elemAt (lkv (Opr.links x)) (↑i : Int)) 0 AVal.undef) == AVal.intOf (List.getD (elemAt (lkv (Opr.links y)) (↑i : Int)) 0 AVal.undef) && (AVal.intOf (List.getD (elemAt (lkv (Opr.links x)) (↑i : Int)) 1 AVal.undef) == AVal.intOf (List.getD (elemAt (lkv (Opr.links y)) (↑i : Int)) 1 AVal.undef) && (AVal.strOf (List.getD (elemAt (lkv (Opr.links x)) (↑i : Int)) 2 AVal.undef) == AVal.strOf (List.getD (elemAt (lkv (Opr.links y)) (↑i : Int)) 2 AVal.undef) && true)))) true (K Exit.ret (St.mk 193 [(5, AVal.ptr (Oid.loc 5) 0), (6, AVal.ptr (Oid.loc 6) 0), (9, AVal.int IntKind.i64 (↑i : Int)), (177, AVal.bool (hold (decide ((↑i : Int) < (↑(List.length (lkv (Opr.links x))) : Int))))), (192, AVal.bool !hold (AVal.intOf (List.getD (elemAt (lkv (Opr.links x)) (↑i : Int)) 0 AVal.undef) == AVal.intOf (List.getD (elemAt (lkv (Opr.links y)) (↑i : Int)) 0 AVal.undef) && (AVal.intOf (List.getD (elemAt (lkv (Opr.links x)) (↑i : Int)) 1 AVal.undef) == AVal.intOf (List.getD (elemAt (lkv (Opr.links y)) (↑i : Int)) 1 AVal.undef) && (AVal.strOf (List.getD (elemAt (lkv (Opr.links x)) (↑i : Int)) 2 AVal.undef) == AVal.strOf (List.getD (elemAt (lkv (Opr.links y)) (↑i : Int)) 2 AVal.undef) && true)))), (4, AVal.bool false)] [] [(5, AObj.cells [AVal.int IntKind.i64 (Opr.k x), AVal.bool (Opr.edge x), AVal.bool (Opr.out x), AVal.int IntKind.i64 (Opr.id x), AVal.int IntKind.i64 (Opr.fr x), AVal.int IntKind.i64 (Opr.tw x), AVal.int IntKind.i64 (Opr.most x), AVal.int IntKind.i64 (Opr.steps x), AVal.str (Opr.label x), AVal.str (Opr.key x), AVal.slice (prv (Opr.props x)) 4 Tag.ro, AVal.slice (strv (Opr.keys x)) 1 Tag.ro, AVal.int IntKind.i64 (Vl.k (Opr.lo x)), AVal.int IntKind.i64 (Vl.n (Opr.lo x)), AVal.str (Vl.s (Opr.lo x)), AVal.int IntKind.i64 (Vl.k (Opr.hi x)), AVal.int IntKind.i64 (Vl.n (Opr.hi x)), AVal.str (Vl.s (Opr.hi x)), AVal.slice (ndv (Opr.nodes x)) 8 Tag.ro, AVal.slice (lkv (Opr.links x)) 3 Tag.ro]), (6, AObj.cells [AVal.int IntKind.i64 (Opr.k y), AVal.bool (Opr.edge y), AVal.bool (Opr.out y), AVal.int IntKind.i64 (Opr.id y), AVal.int IntKind.i64 (Opr.fr y), AVal.int IntKind.i64 (Opr.tw y), AVal.int IntKind.i64 (Opr.most y), AVal.int IntKind.i64 (Opr.steps y), AVal.str (Opr.label y), AVal.str (Opr.key y), AVal.slice (prv (Opr.props y)) 4 Tag.ro, AVal.slice (strv (Opr.keys y)) 1 Tag.ro, AVal.int IntKind.i64 (Vl.k (Opr.lo y)), AVal.int IntKind.i64 (Vl.n (Opr.lo y)), AVal.str (Vl.s (Opr.lo y)), AVal.int IntKind.i64 (Vl.k (Opr.hi y)), AVal.int IntKind.i64 (Vl.n (Opr.hi y)), AVal.str (Vl.s (Opr.hi y)), AVal.slice (ndv (Opr.nodes y)) 8 Tag.ro, AVal.slice (lkv (Opr.links y)) 3 Tag.ro])] Sto.empty)) (L (St.mk 193 [(5, AVal.ptr (Oid.loc 5) 0), (6, AVal.ptr (Oid.loc 6) 0), (9, AVal.int IntKind.i64 (IntKind.wrap IntKind.i64 ((↑i : Int) + (1 : Int))))] [] [(5, AObj.cells [AVal.int IntKind.i64 (Opr.k x), AVal.bool (Opr.edge x), AVal.bool (Opr.out x), AVal.int IntKind.i64 (Opr.id x), AVal.int IntKind.i64 (Opr.fr x), AVal.int IntKind.i64 (Opr.tw x), AVal.int IntKind.i64 (Opr.most x), AVal.int IntKind.i64 (Opr.steps x), AVal.str (Opr.label x), AVal.str (Opr.key x), AVal.slice (prv (Opr.props x)) 4 Tag.ro, AVal.slice (strv (Opr.keys x)) 1 Tag.ro, AVal.int IntKind.i64 (Vl.k (Opr.lo x)), AVal.int IntKind.i64 (Vl.n (Opr.lo x)), AVal.str (Vl.s (Opr.lo x)), AVal.int IntKind.i64 (Vl.k (Opr.hi x)), AVal.int IntKind.i64 (Vl.n (Opr.hi x)), AVal.str (Vl.s (Opr.hi x)), AVal.slice (ndv (Opr.nodes x)) 8 Tag.ro, AVal.slice (lkv (Opr.links x)) 3 Tag.ro]), (6, AObj.cells [AVal.int IntKind.i64 (Opr.k y), AVal.bool (Opr.edge y), AVal.bool (Opr.out y), AVal.int IntKind.i64 (Opr.id y), AVal.int IntKind.i64 (Opr.fr y), AVal.int IntKind.i64 (Opr.tw y), AVal.int IntKind.i64 (Opr.most y), AVal.int IntKind.i64 (Opr.steps y), AVal.str (Opr.label y), AVal.str (Opr.key y), AVal.slice (prv (Opr.props y)) 4 Tag.ro, AVal.slice (strv (Opr.keys y)) 1 Tag.ro, AVal.int IntKind.i64 (Vl.k (Opr.lo y)), AVal.int IntKind.i64 (Vl.n (Opr.lo y)), AVal.str (Vl.s (Opr.lo y)), AVal.int IntKind.i64 (Vl.k (Opr.hi y)), AVal.int IntKind.i64 (Vl.n (Opr.hi y)), AVal.str (Vl.s (Opr.hi y)), AVal.slice (ndv (Opr.nodes y)) 8 Tag.ro, AVal.slice (lkv (Opr.links y)) 3 Tag.ro])] Sto.empty))))))) (K (Exit.exit 4) (St.mk 193 [(5, AVal.ptr (Oid.loc 5) 0), (6, AVal.ptr (Oid.loc 6) 0), (9, AVal.int IntKind.i64 (↑i : Int)), (177, AVal.bool (hold (decide ((↑i : Int) < (↑(List.length (lkv (Opr.links x))) : Int)))))] [] [(5, AObj.cells [AVal.int IntKind.i64 (Opr.k x), AVal.bool (Opr.edge x), AVal.bool (Opr.out x), AVal.int IntKind.i64 (Opr.id x), AVal.int IntKind.i64 (Opr.fr x), AVal.int IntKind.i64 (Opr.tw x), AVal.int IntKind.i64 (Opr.most x), AVal.int IntKind.i64 (Opr.steps x), AVal.str (Opr.label x), AVal.str (Opr.key x), AVal.slice (prv (Opr.props x)) 4 Tag.ro, AVal.slice (strv (Opr.keys x)) 1 Tag.ro, AVal.int IntKind.i64 (Vl.k (Opr.lo x)), AVal.int IntKind.i64 (Vl.n (Opr.lo x)), AVal.str (Vl.s (Opr.lo x)), AVal.int IntKind.i64 (Vl.k (Opr.hi x)), AVal.int IntKind.i64 (Vl.n (Opr.hi x)), AVal.str (Vl.s (Opr.hi x)), AVal.slice (ndv (Opr.nodes x)) 8 Tag.ro, AVal.slice (lkv (Opr.links x)) 3 Tag.ro]), (6, AObj.cells [AVal.int IntKind.i64 (Opr.k y), AVal.bool (Opr.edge y), AVal.bool (Opr.out y), AVal.int IntKind.i64 (Opr.id y), AVal.int IntKind.i64 (Opr.fr y), AVal.int IntKind.i64 (Opr.tw y), AVal.int IntKind.i64 (Opr.most y), AVal.int IntKind.i64 (Opr.steps y), AVal.str (Opr.label y), AVal.str (Opr.key y), AVal.slice (prv (Opr.props y)) 4 Tag.ro, AVal.slice (strv (Opr.keys y)) 1 Tag.ro, AVal.int IntKind.i64 (Vl.k (Opr.lo y)), AVal.int IntKind.i64 (Vl.n (Opr.lo y)), AVal.str (Vl.s (Opr.lo y)), AVal.int IntKind.i64 (Vl.k (Opr.hi y)), AVal.int IntKind.i64 (Vl.n (Opr.hi y)), AVal.str (Vl.s (Opr.hi y)), AVal.slice (ndv (Opr.nodes y)) 8 Tag.ro, AVal.slice (lkv (Opr.links y)) 3 Tag.ro])] Sto.empty))) := by kernel_rfl
end Go.Proofs.YtcijjgfadkflmaaDoor
end

section
namespace Go.Proofs.YtcijjgfadkflmaaDoor
open Go.AL
set_option linter.unusedSimpArgs false
set_option linter.unusedVariables false
set_option maxHeartbeats 4000000
set_option maxRecDepth 20000
theorem elemAt_strv (l : List Txt) (i : Nat) (h : i < l.length) : elemAt (strv l) (i : Int) = [.str l[i]] := elemAt_map AVal.str l i h
theorem psame_c (a b : List Pr) (ha : a.length ≤ 1000000) (hb : b.length ≤ 1000000) : ACall Tryd.prog 12 [.slice (prv a) 4 .ro, .slice (prv b) 4 .ro] Sto.empty fun r _ => Wk r (.bool (decide (a = b))) := by
  refine psame_i a b _ (.of_none rfl) ?_
  have h1 := prv_len a
  have h2 := prv_len b
  simp only [hold_eq]
  with_reducible refine brV_by (fun h => ?_) (fun h => ?_)
  · have hne : a.length ≠ b.length := by
      have h : (((prv a).length : Int) != ((prv b).length : Int)) = true := h
      have : ¬ ((prv a).length : Int) = ((prv b).length : Int) := by simpa using h
      omega
    have : decide (a = b) = false := decide_eq_false fun e => hne (by rw [e])
    rw [this]; exact Wk.refl _
  have hn : a.length = b.length := by
    have h : (((prv a).length : Int) != ((prv b).length : Int)) = false := h
    have : ((prv a).length : Int) = ((prv b).length : Int) := by simpa using h
    omega
  refine loopV_intro (α := Nat) (fun i => psameL_S a b i) (fun i => i ≤ a.length ∧ ∀ j (ha : j < a.length) (hb : j < b.length), j < i → a[j] = b[j]) (fun i => a.length - i) ?_ 0 ⟨Nat.zero_le _, fun j _ _ h => by omega⟩
  rintro i ⟨hi, hpre⟩ L hL
  refine Eq.mpr (psameL_r a b i L _) ?_
  simp only [hold_eq]
  with_reducible refine brV_by (fun h => ?_) (fun h => ?_)
  · have hlt : i < a.length := by have := of_decide_eq_true h; omega
    have hlb : i < b.length := by omega
    rw [i64_succ hlt (by omega), elemAt_prv a i hlt, elemAt_prv b i hlb]
    refine gb_by (dt (by omega)) (gb_by rfl (gb_by (dt (by omega)) (gb_by rfl ?_)))
    with_reducible refine brV_by (fun h => ?_) (fun h => ?_)
    · have hne : a[i] ≠ b[i] := fun e => by rw [e] at h; simp at h
      rw [ls_no hlt hlb hne]; exact Wk.refl _
    · have he : a[i] = b[i] := by
        generalize a[i] = x at h
        generalize b[i] = y at h
        obtain ⟨x1, ⟨x2, x3, x4⟩⟩ := x
        obtain ⟨y1, ⟨y2, y3, y4⟩⟩ := y
        simpa [AVal.strOf, AVal.intOf, and_assoc] using h
      refine hL (i + 1) ⟨hlt, fun j hj hj' hji => ?_⟩ (by omega)
      rcases Nat.lt_or_ge j i with h9 | h9
      · exact hpre j hj hj' h9
      · obtain rfl : j = i := by omega
        exact he
  · have hge : i = a.length := by have := of_decide_eq_false h; omega
    rw [ls_yes hn (fun j h1 h2 => hpre j h1 h2 (by omega))]
    exact leaveTo (Wk.refl _)
theorem psame_ok : EntOk Tryd.prog psameE := by
  intro xs σ; simp only [psameE]; split
  · rename_i a s t b s' t'
    intro hc
    simp only [Bool.and_eq_true] at hc
    obtain ⟨h1, h2, h3, h4, h5, h6⟩ := hc
    have h3 := lenL_of h3
    have h6 := lenL_of h6
    have q1 : (List.map prOf a).length ≤ 1000000 := by rw [List.length_map]; exact h3
    have q2 : (List.map prOf b).length ≤ 1000000 := by rw [List.length_map]; exact h6
    rw [hold_eq]
    exact pcall_of (.cons (wk_prv t h1 h2) (.cons (wk_prv t' h4 h5) (.refl _))) (psame_c _ _ q1 q2) (by simp only [noOutL, AVal.noOut, prv_noOut, Bool.and_self]) (by simp only [noTokL, AVal.noTok, prv_noTok, Tag.below, Bool.and_self]) rfl rfl
  · trivial
theorem rsP_c (x y : Opr) (z : Bool) (q1 : x.links.length ≤ 100000) (hn : x.links.length = y.links.length) (hz : z = decide (x.links = y.links)) : vc Tryd.prog cRSame rsP_C (endK Tryd.prog Tryd.f7.results.toList fun r _ => Wk r (.bool z)) (rsP_S x y) := by
  refine Eq.mpr (rsP_r x y _) ?_
  have no : ¬ x.links = y.links → Wk (.bool false) (.bool z) := fun h => by rw [hz, decide_eq_false h]; exact .refl _
  refine loopV_intro (α := Nat) (fun i => rsL_S x y i) (fun i => i ≤ x.links.length ∧ ∀ j (ha : j < x.links.length) (hb : j < y.links.length), j < i → x.links[j] = y.links[j]) (fun i => x.links.length - i) ?_ 0 ⟨Nat.zero_le _, fun j _ _ h => by omega⟩
  rintro i ⟨hi, hpre⟩ L hL
  refine Eq.mpr (rsL_r x y i L _) ?_
  have e1 := lkv_len x.links
  have e2 := lkv_len y.links
  simp only [hold_eq]
  with_reducible refine brV_by (fun h => ?_) (fun h => ?_)
  · have hlt : i < x.links.length := by have := of_decide_eq_true h; omega
    have hlb : i < y.links.length := by omega
    rw [i64_succ hlt (by omega), elemAt_lkv x.links i hlt, elemAt_lkv y.links i hlb]
    refine gb_by (dt (by omega)) (gb_by rfl (gb_by (dt (by omega)) (gb_by rfl ?_)))
    with_reducible refine brV_by (fun h => ?_) (fun h => ?_)
    · have hne : x.links[i] ≠ y.links[i] := fun e => by rw [e] at h; simp at h
      exact no (fun e => hne (by simp only [e]))
    · have he : x.links[i] = y.links[i] := by
        generalize x.links[i] = p at h
        generalize y.links[i] = q at h
        obtain ⟨x1, x2, x3⟩ := p
        obtain ⟨y1, y2, y3⟩ := q
        simpa [AVal.strOf, AVal.intOf, and_assoc] using h
      refine hL (i + 1) ⟨hlt, fun j hj hj' hji => ?_⟩ (by omega)
      rcases Nat.lt_or_ge j i with h9 | h9
      · exact hpre j hj hj' h9
      · obtain rfl : j = i := by omega
        exact he
  · have hge : i = x.links.length := by have := of_decide_eq_false h; omega
    have hall : x.links = y.links := List.ext_getElem hn (fun j h1 h2 => hpre j h1 h2 (by omega))
    exact leaveTo (by rw [hz, decide_eq_true hall]; exact Wk.refl _)
theorem rsM_c (x y : Opr) (z : Bool) (q1 : x.links.length ≤ 100000) (q2 : x.nodes.length ≤ 100000) (hl : x.links.length = y.links.length) (hn : x.nodes.length = y.nodes.length) (hz : z = decide (x.nodes = y.nodes ∧ x.links = y.links)) : vc Tryd.prog cRSame rsM_C (endK Tryd.prog Tryd.f7.results.toList fun r _ => Wk r (.bool z)) (rsM_S x y) := by
  refine Eq.mpr (rsM_r x y _) ?_
  have no : ¬ x.nodes = y.nodes → Wk (.bool false) (.bool z) := fun h => by rw [hz, decide_eq_false (fun e => h e.1)]; exact .refl _
  refine loopV_intro (α := Nat) (fun i => rsN_S x y i) (fun i => i ≤ x.nodes.length ∧ ∀ j (ha : j < x.nodes.length) (hb : j < y.nodes.length), j < i → x.nodes[j] = y.nodes[j]) (fun i => x.nodes.length - i) ?_ 0 ⟨Nat.zero_le _, fun j _ _ h => by omega⟩
  rintro i ⟨hi, hpre⟩ L hL
  refine Eq.mpr (rsN_r x y i L _) ?_
  have e1 := ndv_len x.nodes
  have e2 := ndv_len y.nodes
  simp only [hold_eq]
  with_reducible refine brV_by (fun h => ?_) (fun h => ?_)
  · have hlt : i < x.nodes.length := by have := of_decide_eq_true h; omega
    have hlb : i < y.nodes.length := by omega
    rw [i64_succ hlt (by omega), elemAt_ndv x.nodes i hlt, elemAt_ndv y.nodes i hlb]
    refine gb_by (dt (by omega)) (gb_by rfl (gb_by (dt (by omega)) (gb_by rfl ?_)))
    with_reducible refine brV_by (fun h => ?_) (fun h => ?_)
    · have hne : x.nodes[i] ≠ y.nodes[i] := fun e => by rw [e] at h; simp at h
      exact no (fun e => hne (by simp only [e]))
    · have he : x.nodes[i] = y.nodes[i] := by
        generalize x.nodes[i] = p at h
        generalize y.nodes[i] = q at h
        obtain ⟨x1, x2, ⟨x3, x4, x5⟩, ⟨x6, x7, x8⟩⟩ := p
        obtain ⟨y1, y2, ⟨y3, y4, y5⟩, ⟨y6, y7, y8⟩⟩ := q
        simpa [AVal.strOf, AVal.intOf, and_assoc] using h
      refine hL (i + 1) ⟨hlt, fun j hj hj' hji => ?_⟩ (by omega)
      rcases Nat.lt_or_ge j i with h9 | h9
      · exact hpre j hj hj' h9
      · obtain rfl : j = i := by omega
        exact he
  · have hge : i = x.nodes.length := by have := of_decide_eq_false h; omega
    have hall : x.nodes = y.nodes := List.ext_getElem hn (fun j h1 h2 => hpre j h1 h2 (by omega))
    exact leaveK (Lt.thenN (toCut (rsP_c x y z q1 hl (by rw [hz, Bool.eq_iff_iff]; simp [hall]))))
theorem rsB_c (x y : Opr) (z : Bool) (q1 : x.links.length ≤ 100000) (q2 : x.nodes.length ≤ 100000) (q3 : x.keys.length ≤ 100000) (hl : x.links.length = y.links.length) (hm : x.nodes.length = y.nodes.length) (hn : x.keys.length = y.keys.length) (hz : z = decide (x.keys = y.keys ∧ x.nodes = y.nodes ∧ x.links = y.links)) : vc Tryd.prog cRSame rsB_C (endK Tryd.prog Tryd.f7.results.toList fun r _ => Wk r (.bool z)) (rsB_S x y) := by
  refine Eq.mpr (rsB_r x y _) ?_
  have no : ¬ x.keys = y.keys → Wk (.bool false) (.bool z) := fun h => by rw [hz, decide_eq_false (fun e => h e.1)]; exact .refl _
  refine loopV_intro (α := Nat) (fun i => rsK_S x y i) (fun i => i ≤ x.keys.length ∧ ∀ j (ha : j < x.keys.length) (hb : j < y.keys.length), j < i → x.keys[j] = y.keys[j]) (fun i => x.keys.length - i) ?_ 0 ⟨Nat.zero_le _, fun j _ _ h => by omega⟩
  rintro i ⟨hi, hpre⟩ L hL
  refine Eq.mpr (rsK_r x y i L _) ?_
  have e1 := strv_length x.keys
  have e2 := strv_length y.keys
  simp only [hold_eq]
  with_reducible refine brV_by (fun h => ?_) (fun h => ?_)
  · have hlt : i < x.keys.length := by have := of_decide_eq_true h; omega
    have hlb : i < y.keys.length := by omega
    rw [i64_succ hlt (by omega), elemAt_strv x.keys i hlt, elemAt_strv y.keys i hlb]
    refine gb_by (dt (by omega)) (gb_by rfl (gb_by (dt (by omega)) (gb_by rfl ?_)))
    with_reducible refine brV_by (fun h => ?_) (fun h => ?_)
    · have hne : x.keys[i] ≠ y.keys[i] := fun e => by rw [e] at h; simp at h
      exact no (fun e => hne (by simp only [e]))
    · have he : x.keys[i] = y.keys[i] := by simpa [AVal.strOf] using h
      refine hL (i + 1) ⟨hlt, fun j hj hj' hji => ?_⟩ (by omega)
      rcases Nat.lt_or_ge j i with h9 | h9
      · exact hpre j hj hj' h9
      · obtain rfl : j = i := by omega
        exact he
  · have hge : i = x.keys.length := by have := of_decide_eq_false h; omega
    have hall : x.keys = y.keys := List.ext_getElem hn (fun j h1 h2 => hpre j h1 h2 (by omega))
    exact leaveK (Lt.thenN (toCut (rsM_c x y z q1 q2 hl hm (by rw [hz, Bool.eq_iff_iff]; simp [hall]))))
theorem rsA_c (x y : Opr) (z : Bool) (hx : x.few) (hy : y.few) (hz : z = decide (x.props = y.props ∧ x.keys = y.keys ∧ x.nodes = y.nodes ∧ x.links = y.links)) (ho : OrcOk Tryd.prog cRSame) : vc Tryd.prog cRSame rsA_C (endK Tryd.prog Tryd.f7.results.toList fun r _ => Wk r (.bool z)) (rsA_S x y) := by
  refine Eq.mpr (rsA_r x y _) ?_
  have p1 := hx.props; have p2 := hx.keys; have p3 := hx.nodes; have p4 := hx.links
  have q1 := hy.props; have q2 := hy.keys; have q3 := hy.nodes; have q4 := hy.links
  intro b hb
  rw [map_prOf, map_prOf, hold_eq] at hb
  refine gb_by (by rw [prv_is, prv_is, prv_len, prv_len, lenL_mk (Nat.le_trans p1 (by omega)), lenL_mk (Nat.le_trans q1 (by omega))]; rfl) ?_
  have no : ¬ (x.props = y.props ∧ x.keys = y.keys ∧ x.nodes = y.nodes ∧ x.links = y.links) → Wk (.bool false) (.bool z) := fun h => by rw [hz, decide_eq_false h]; exact .refl _
  simp only [hold_eq, strv_length, ndv_len, lkv_len]
  with_reducible refine brV_by' (fun h1 => ?_) (fun h1 => ?_)
  rotate_left
  · exact no fun e => by rw [hb, e.1] at h1; simp at h1
  with_reducible refine brV_by' (fun h2 => ?_) (fun h2 => ?_)
  rotate_left
  · exact no fun e => by rw [e.2.1] at h2; simp at h2
  with_reducible refine brV_by' (fun h3 => ?_) (fun h3 => ?_)
  rotate_left
  · exact no fun e => by rw [e.2.2.1] at h3; simp at h3
  with_reducible refine brV_by (fun h4 => ?_) (fun h4 => ?_)
  · exact no fun e => by rw [e.2.2.2] at h4; simp at h4
  have h1 : x.props = y.props := by rw [hb] at h1; simpa using h1
  have h2 : x.keys.length = y.keys.length := Int.ofNat_inj.1 (by simpa using h2)
  have h3 : x.nodes.length = y.nodes.length := Int.ofNat_inj.1 (by simpa using h3)
  have h4 : x.links.length = y.links.length := Int.ofNat_inj.1 (by simpa using h4)
  exact toCut (rsB_c x y z p4 p3 p2 h4 h3 h2 (by rw [hz, Bool.eq_iff_iff]; simp [h1]))
theorem rsame_c (x y : Ak) (hx : x.op.few) (hy : y.op.few) : ACall Tryd.prog 7 [Ak.a x, Ak.a y] Sto.empty fun r _ => Wk r (.bool (sameA x y)) := by
  have ho : OrcOk Tryd.prog cRSame := .of [psameE] rfl ⟨psame_ok, trivial⟩
  refine rsame_i x y _ ho ?_
  simp only [hold_eq, vlEq]
  have no : ∀ {p : Prop}, (sameA x y = true → p) → ¬ p → Wk (.bool false) (.bool (sameA x y)) := fun h hp => by
    cases hs : sameA x y with
    | false => exact .refl _
    | true => exact (hp (h hs)).elim
  have hs : sameA x y = true → x.verb = y.verb ∧ x.op.k = y.op.k ∧ x.op.edge = y.op.edge ∧ x.op.out = y.op.out ∧ x.op.id = y.op.id ∧ x.op.fr = y.op.fr ∧ x.op.tw = y.op.tw ∧ x.op.most = y.op.most ∧ x.op.label = y.op.label ∧ x.op.key = y.op.key ∧ x.op.lo = y.op.lo ∧ x.op.hi = y.op.hi := fun h => by
    simp only [sameA, sameO, Bool.and_eq_true, decide_eq_true_eq] at h
    obtain ⟨a0, a1, a2, a3, a4, a5, a6, a7, a8, a9, a10, a11, _⟩ := h
    exact ⟨a0, a1, a2, a3, a4, a5, a6, a7, a8, a9, a10, a11⟩
  with_reducible refine brV_by' (fun h0 => ?_) (fun h => no (fun e => (hs e).1) (by simpa using h))
  with_reducible refine brV_by' (fun h1 => ?_) (fun h => no (fun e => (hs e).2.1) (by simpa using h))
  with_reducible refine brV_by' (fun h2 => ?_) (fun h => no (fun e => (hs e).2.2.1) (by simpa using h))
  with_reducible refine brV_by' (fun h3 => ?_) (fun h => no (fun e => (hs e).2.2.2.1) (by simpa using h))
  with_reducible refine brV_by' (fun h4 => ?_) (fun h => no (fun e => (hs e).2.2.2.2.1) (by simpa using h))
  with_reducible refine brV_by' (fun h5 => ?_) (fun h => no (fun e => (hs e).2.2.2.2.2.1) (by simpa using h))
  with_reducible refine brV_by' (fun h6 => ?_) (fun h => no (fun e => (hs e).2.2.2.2.2.2.1) (by simpa using h))
  with_reducible refine brV_by' (fun h7 => ?_) (fun h => no (fun e => (hs e).2.2.2.2.2.2.2.1) (by simpa using h))
  with_reducible refine brV_by' (fun h8 => ?_) (fun h => no (fun e => (hs e).2.2.2.2.2.2.2.2.1) (by simpa using h))
  with_reducible refine brV_by' (fun h9 => ?_) (fun h => no (fun e => (hs e).2.2.2.2.2.2.2.2.2.1) (by simpa using h))
  with_reducible refine brV_by' (fun h10 => ?_) (fun h => no (fun e => (hs e).2.2.2.2.2.2.2.2.2.2.1) (by simpa using h))
  with_reducible refine brV_by (fun h => no (fun e => (hs e).2.2.2.2.2.2.2.2.2.2.2) (by simpa using h)) (fun h11 => ?_)
  refine toCut (rsA_c x.op y.op (sameA x y) hx hy ?_ ho)
  rw [Bool.eq_iff_iff]
  simp only [bne_iff_ne, ne_eq, bne_eq_false_iff_eq, beq_iff_eq, Bool.not_eq_false', decide_eq_true_eq] at h0 h1 h2 h3 h4 h5 h6 h7 h8 h9 h10 h11
  simp only [sameA, sameO, Bool.and_eq_true, decide_eq_true_eq, h0, h1, h2, h3, h4, h5, h6, h7, h8, h9, h10, h11, true_and]
theorem rsame_ok : EntOk Tryd.prog rsameE := by
  intro xs σ; simp only [rsameE]; split
  · rename_i v cs v' cs'
    refine oprE_eq (fun x hx => ?_) (fun x => ?_)
    · subst hx
      refine oprE_eq (fun y hy => ?_) (fun y hc => by cases hc)
      subst hy
      intro hc
      simp only [Bool.true_and, Bool.and_eq_true] at hc
      have h1 := noOut_ak ⟨v, x⟩
      have h2 := noOut_ak ⟨v', y⟩
      have h3 := noTok_ak ⟨v, x⟩
      have h4 := noTok_ak ⟨v', y⟩
      refine pcall_of (.refl _) (by rw [hold_eq]; exact rsame_c ⟨v, x⟩ ⟨v', y⟩ (few_of hc.1) (few_of hc.2)) ?_ ?_ rfl rfl
      · simp only [noOutL, Bool.and_true, Bool.and_eq_true]; exact ⟨h1, h2⟩
      · simp only [noTokL, Bool.and_true, Bool.and_eq_true]; exact ⟨h3, h4⟩
    · refine oprE_eq (fun y hy hc => by cases hc) (fun y hc => by cases hc)
  · trivial
end Go.Proofs.YtcijjgfadkflmaaDoor
end

section
set_option maxRecDepth 100000
set_option maxHeartbeats 0
set_option linter.unusedVariables false
namespace Go.Proofs.YtcijjgfadkflmaaDoor
open Go.AL Go.Proofs
noncomputable def cSmall : Cfg := { keep := [0, 1, 2, 3, 4, 5, 6, 42, 54, 59, 80, 86, 118, 124, 135], cut := [(13, [1, 3], [1]), (23, [1, 4], [1]), (35, [1, 6], [1]), (20, [1], [1]), (32, [1], [1])] }
noncomputable def code_5_ : Code := (Tryd.f5.body).getD .skip
noncomputable def code_5_1_1_1_1 : Code := codeAt code_5_ [1, 1, 1, 1]
noncomputable def code_5_1_1_1_1_1 : Code := codeAt code_5_ [1, 1, 1, 1, 1]
noncomputable def code_5_1_1_1_1_1_1 : Code := codeAt code_5_ [1, 1, 1, 1, 1, 1]
noncomputable def code_5_1_1_1_0_1_0_0 : Code := codeAt code_5_ [1, 1, 1, 0, 1, 0, 0]
noncomputable def code_5_1_1_1_1_0_1_0_0 : Code := codeAt code_5_ [1, 1, 1, 1, 0, 1, 0, 0]
noncomputable def code_5_1_1_1_1_1_0_1_0_0 : Code := codeAt code_5_ [1, 1, 1, 1, 1, 0, 1, 0, 0]
theorem small_r (o : Opr) (Q : AVal → Sto → Prop) : vc Tryd.prog cSmall code_5_ (endK Tryd.prog Tryd.f5.results.toList Q) (St.start Tryd.f5.ntmps [Opr.a o] (Sto.empty)) =
  (brV (hold (decide ((100 : Int) < (↑(List.length (Opr.label o)) : Int)))) false (brV (hold (decide ((100 : Int) < (↑(List.length (Opr.key o)) : Int)))) false (brV (hold (decide ((300 : Int) < (↑(List.length (Vl.s (Opr.lo o))) : Int)))) false (brV (hold (decide ((300 : Int) < (↑(List.length (Vl.s (Opr.hi o))) : Int)))) false (brV (hold (decide ((20 : Int) < (↑(List.length (prv (Opr.props o))) : Int)))) false (brV (hold (decide ((20 : Int) < (↑(List.length (strv (Opr.keys o))) : Int)))) true (Q (AVal.bool false) Sto.empty) (brV (hold (decide ((4 : Int) < (↑(List.length (ndv (Opr.nodes o))) : Int)))) false (brV (hold (decide ((20 : Int) < (↑(List.length (lkv (Opr.links o))) : Int)))) true (Q (AVal.bool false) Sto.empty) (loopV (fun s => St.norm [] [1, 3] [1] s) (vc Tryd.prog cSmall code_5_1_1_1_0_1_0_0) (blockK 0 (thenK (fun s => cutV (vc Tryd.prog cSmall code_5_1_1_1_1 (endK Tryd.prog (Array.toList (Go.Func.results Tryd.f5)) Q)) (St.norm [] [1] [1] s)) (endK Tryd.prog (Array.toList (Go.Func.results Tryd.f5)) Q))) (St.mk 136 [(1, AVal.ptr (Oid.loc 1) 0), (3, AVal.int IntKind.i64 (0 : Int))] [] [(1, AObj.cells [AVal.int IntKind.i64 (Opr.k o), AVal.bool (Opr.edge o), AVal.bool (Opr.out o), AVal.int IntKind.i64 (Opr.id o), AVal.int IntKind.i64 (Opr.fr o), AVal.int IntKind.i64 (Opr.tw o), AVal.int IntKind.i64 (Opr.most o), AVal.int IntKind.i64 (Opr.steps o), AVal.str (Opr.label o), AVal.str (Opr.key o), AVal.slice (prv (Opr.props o)) 4 Tag.ro, AVal.slice (strv (Opr.keys o)) 1 Tag.ro, AVal.int IntKind.i64 (Vl.k (Opr.lo o)), AVal.int IntKind.i64 (Vl.n (Opr.lo o)), AVal.str (Vl.s (Opr.lo o)), AVal.int IntKind.i64 (Vl.k (Opr.hi o)), AVal.int IntKind.i64 (Vl.n (Opr.hi o)), AVal.str (Vl.s (Opr.hi o)), AVal.slice (ndv (Opr.nodes o)) 8 Tag.ro, AVal.slice (lkv (Opr.links o)) 3 Tag.ro])] Sto.empty))) (Q (AVal.bool false) Sto.empty))) (Q (AVal.bool false) Sto.empty)) (Q (AVal.bool false) Sto.empty)) (Q (AVal.bool false) Sto.empty)) (Q (AVal.bool false) Sto.empty)) (Q (AVal.bool false) Sto.empty)) := by kernel_rfl
theorem small_i (o : Opr) (Q : AVal → Sto → Prop) (ho : OrcOk Tryd.prog cSmall) (h : brV (hold (decide ((100 : Int) < (↑(List.length (Opr.label o)) : Int)))) false (brV (hold (decide ((100 : Int) < (↑(List.length (Opr.key o)) : Int)))) false (brV (hold (decide ((300 : Int) < (↑(List.length (Vl.s (Opr.lo o))) : Int)))) false (brV (hold (decide ((300 : Int) < (↑(List.length (Vl.s (Opr.hi o))) : Int)))) false (brV (hold (decide ((20 : Int) < (↑(List.length (prv (Opr.props o))) : Int)))) false (brV (hold (decide ((20 : Int) < (↑(List.length (strv (Opr.keys o))) : Int)))) true (Q (AVal.bool false) Sto.empty) (brV (hold (decide ((4 : Int) < (↑(List.length (ndv (Opr.nodes o))) : Int)))) false (brV (hold (decide ((20 : Int) < (↑(List.length (lkv (Opr.links o))) : Int)))) true (Q (AVal.bool false) Sto.empty) (loopV (fun s => St.norm [] [1, 3] [1] s) (vc Tryd.prog cSmall code_5_1_1_1_0_1_0_0) (blockK 0 (thenK (fun s => cutV (vc Tryd.prog cSmall code_5_1_1_1_1 (endK Tryd.prog (Array.toList (Go.Func.results Tryd.f5)) Q)) (St.norm [] [1] [1] s)) (endK Tryd.prog (Array.toList (Go.Func.results Tryd.f5)) Q))) (St.mk 136 [(1, AVal.ptr (Oid.loc 1) 0), (3, AVal.int IntKind.i64 (0 : Int))] [] [(1, AObj.cells [AVal.int IntKind.i64 (Opr.k o), AVal.bool (Opr.edge o), AVal.bool (Opr.out o), AVal.int IntKind.i64 (Opr.id o), AVal.int IntKind.i64 (Opr.fr o), AVal.int IntKind.i64 (Opr.tw o), AVal.int IntKind.i64 (Opr.most o), AVal.int IntKind.i64 (Opr.steps o), AVal.str (Opr.label o), AVal.str (Opr.key o), AVal.slice (prv (Opr.props o)) 4 Tag.ro, AVal.slice (strv (Opr.keys o)) 1 Tag.ro, AVal.int IntKind.i64 (Vl.k (Opr.lo o)), AVal.int IntKind.i64 (Vl.n (Opr.lo o)), AVal.str (Vl.s (Opr.lo o)), AVal.int IntKind.i64 (Vl.k (Opr.hi o)), AVal.int IntKind.i64 (Vl.n (Opr.hi o)), AVal.str (Vl.s (Opr.hi o)), AVal.slice (ndv (Opr.nodes o)) 8 Tag.ro, AVal.slice (lkv (Opr.links o)) 3 Tag.ro])] Sto.empty))) (Q (AVal.bool false) Sto.empty))) (Q (AVal.bool false) Sto.empty)) (Q (AVal.bool false) Sto.empty)) (Q (AVal.bool false) Sto.empty)) (Q (AVal.bool false) Sto.empty)) (Q (AVal.bool false) Sto.empty)) : ACall Tryd.prog 5 [Opr.a o] (Sto.empty) Q :=
  ACall.intro hmix Tryd.func5 (c := code_5_) (by kernel_rfl) cSmall ho (Nat.le_of_ble_eq_true (by kernel_rfl)) (by rw [small_r]; exact h)
noncomputable def smallA_S (o : Opr) (i : Nat) : St := St.mk 136 [(1, .ptr (.loc 1) 0), (3, .int .i64 (i : Int))] [] [(1, .cells (Opr.cs o))] (Sto.empty)
noncomputable abbrev smallA_C : Code := code_5_1_1_1_0_1_0_0
theorem smallA_r (o : Opr) (i : Nat) (L : St → Prop) (K : Exit → St → Prop) : vc Tryd.prog cSmall code_5_1_1_1_0_1_0_0 (thenK (fun s => L (St.norm [] [1, 3] [1] s)) K) (St.mk 136 [(1, .ptr (.loc 1) 0), (3, .int .i64 (i : Int))] [] [(1, .cells (Opr.cs o))] (Sto.empty)) =
  (brV (hold (decide ((↑i : Int) < (↑(List.length (prv (Opr.props o))) : Int)))) true (gb (decide ((0 : Int) ≤ (↑i : Int) ∧ (↑i : Int) < (↑(List.length (prv (Opr.props o))) : Int))) (gb (decide (1 ≤ List.length (List.drop 0 (elemAt (prv (Opr.props o)) (↑i : Int))) ∧ 0 < 1) && etaOk Sh.str (List.getD (List.drop 0 (elemAt (prv (Opr.props o)) (↑i : Int))) 0 AVal.undef)) (brV (hold (decide ((100 : Int) < (↑(List.length (AVal.strOf (List.getD (List.drop 0 (elemAt (prv (Opr.props o)) (↑i : Int))) 0 AVal.undef))) : Int)))) false (gb (decide ((0 : Int) ≤ (↑i : Int) ∧ (↑i : Int) < (↑(List.length (prv (Opr.props o))) : Int))) (gb (decide (1 ≤ List.length (List.drop 2 (List.drop 1 (elemAt (prv (Opr.props o)) (↑i : Int)))) ∧ 0 < 1) && etaOk Sh.str (List.getD (List.drop 2 (List.drop 1 (elemAt (prv (Opr.props o)) (↑i : Int)))) 0 AVal.undef)) (brV (hold (decide ((300 : Int) < (↑(List.length (AVal.strOf (List.getD (List.drop 2 (List.drop 1 (elemAt (prv (Opr.props o)) (↑i : Int)))) 0 AVal.undef))) : Int)))) true (K Exit.ret (St.mk 136 [(1, AVal.ptr (Oid.loc 1) 0), (3, AVal.int IntKind.i64 (↑i : Int)), (59, AVal.bool (hold (decide ((↑i : Int) < (↑(List.length (prv (Opr.props o))) : Int))))), (80, AVal.bool (hold (decide ((300 : Int) < (↑(List.length (AVal.strOf (List.getD (List.drop 2 (List.drop 1 (elemAt (prv (Opr.props o)) (↑i : Int)))) 0 AVal.undef))) : Int))))), (2, AVal.bool false)] [] [(1, AObj.cells [AVal.int IntKind.i64 (Opr.k o), AVal.bool (Opr.edge o), AVal.bool (Opr.out o), AVal.int IntKind.i64 (Opr.id o), AVal.int IntKind.i64 (Opr.fr o), AVal.int IntKind.i64 (Opr.tw o), AVal.int IntKind.i64 (Opr.most o), AVal.int IntKind.i64 (Opr.steps o), AVal.str (Opr.label o), AVal.str (Opr.key o), AVal.slice (prv (Opr.props o)) 4 Tag.ro, AVal.slice (strv (Opr.keys o)) 1 Tag.ro, AVal.int IntKind.i64 (Vl.k (Opr.lo o)), AVal.int IntKind.i64 (Vl.n (Opr.lo o)), AVal.str (Vl.s (Opr.lo o)), AVal.int IntKind.i64 (Vl.k (Opr.hi o)), AVal.int IntKind.i64 (Vl.n (Opr.hi o)), AVal.str (Vl.s (Opr.hi o)), AVal.slice (ndv (Opr.nodes o)) 8 Tag.ro, AVal.slice (lkv (Opr.links o)) 3 Tag.ro])] Sto.empty)) (L (St.mk 136 [(1, AVal.ptr (Oid.loc 1) 0), (3, AVal.int IntKind.i64 (IntKind.wrap IntKind.i64 ((↑i : Int) + (1 : Int))))] [] [(1, AObj.cells [AVal.int IntKind.i64 (Opr.k o), AVal.bool (Opr.edge o), AVal.bool (Opr.out o), AVal.int IntKind.i64 (Opr.id o), AVal.int IntKind.i64 (Opr.fr o), AVal.int IntKind.i64 (Opr.tw o), AVal.int IntKind.i64 (Opr.most o), AVal.int IntKind.i64 (Opr.steps o), AVal.str (Opr.label o), AVal.str (Opr.key o), AVal.slice (prv (Opr.props o)) 4 Tag.ro, AVal.slice (strv (Opr.keys o)) 1 Tag.ro, AVal.int IntKind.i64 (Vl.k (Opr.lo o)), AVal.int IntKind.i64 (Vl.n (Opr.lo o)), AVal.str (Vl.s (Opr.lo o)), AVal.int IntKind.i64 (Vl.k (Opr.hi o)), AVal.int IntKind.i64 (Vl.n (Opr.hi o)), AVal.str (Vl.s (Opr.hi o)), AVal.slice (ndv (Opr.nodes o)) 8 Tag.ro, AVal.slice (lkv (Opr.links o)) 3 Tag.ro])] Sto.empty))))) (K Exit.ret (St.mk 136 [(1, AVal.ptr (Oid.loc 1) 0), (3, AVal.int IntKind.i64 (↑i : Int)), (59, AVal.bool (hold (decide ((↑i : Int) < (↑(List.length (prv (Opr.props o))) : Int))))), (80, AVal.bool true), (2, AVal.bool false)] [] [(1, AObj.cells [AVal.int IntKind.i64 (Opr.k o), AVal.bool (Opr.edge o), AVal.bool (Opr.out o), AVal.int IntKind.i64 (Opr.id o), AVal.int IntKind.i64 (Opr.fr o), AVal.int IntKind.i64 (Opr.tw o), AVal.int IntKind.i64 (Opr.most o), AVal.int IntKind.i64 (Opr.steps o), AVal.str (Opr.label o), AVal.str (Opr.key o), AVal.slice (prv (Opr.props o)) 4 Tag.ro, AVal.slice (strv (Opr.keys o)) 1 Tag.ro, AVal.int IntKind.i64 (Vl.k (Opr.lo o)), AVal.int IntKind.i64 (Vl.n (Opr.lo o)), AVal.str (Vl.s (Opr.lo o)), AVal.int IntKind.i64 (Vl.k (Opr.hi o)), AVal.int IntKind.i64 (Vl.n (Opr.hi o)), AVal.str (Vl.s (Opr.hi o)), AVal.slice (ndv (Opr.nodes o)) 8 Tag.ro, AVal.slice (lkv (Opr.links o)) 3 Tag.ro])] Sto.empty))))) (K (Exit.exit 0) (St.mk 136 [(1, AVal.ptr (Oid.loc 1) 0), (3, AVal.int IntKind.i64 (↑i : Int)), (59, AVal.bool (hold (decide ((↑i : Int) < (↑(List.length (prv (Opr.props o))) : Int)))))] [] [(1, AObj.cells [AVal.int IntKind.i64 (Opr.k o), AVal.bool (Opr.edge o), AVal.bool (Opr.out o), AVal.int IntKind.i64 (Opr.id o), AVal.int IntKind.i64 (Opr.fr o), AVal.int IntKind.i64 (Opr.tw o), AVal.int IntKind.i64 (Opr.most o), AVal.int IntKind.i64 (Opr.steps o), AVal.str (Opr.label o), AVal.str (Opr.key o), AVal.slice (prv (Opr.props o)) 4 Tag.ro, AVal.slice (strv (Opr.keys o)) 1 Tag.ro, AVal.int IntKind.i64 (Vl.k (Opr.lo o)), AVal.int IntKind.i64 (Vl.n (Opr.lo o)), AVal.str (Vl.s (Opr.lo o)), AVal.int IntKind.i64 (Vl.k (Opr.hi o)), AVal.int IntKind.i64 (Vl.n (Opr.hi o)), AVal.str (Vl.s (Opr.hi o)), AVal.slice (ndv (Opr.nodes o)) 8 Tag.ro, AVal.slice (lkv (Opr.links o)) 3 Tag.ro])] Sto.empty))) := by kernel_rfl
noncomputable def smallB_S (o : Opr) : St := St.mk 136 [(1, .ptr (.loc 1) 0)] [] [(1, .cells (Opr.cs o))] (Sto.empty)
noncomputable abbrev smallB_C : Code := code_5_1_1_1_1
theorem smallB_r (o : Opr) (K : Exit → St → Prop) : vc Tryd.prog cSmall code_5_1_1_1_1 K (St.mk 136 [(1, .ptr (.loc 1) 0)] [] [(1, .cells (Opr.cs o))] (Sto.empty)) =
  (loopV (fun s => St.norm [] [1, 4] [1] s) (vc Tryd.prog cSmall code_5_1_1_1_1_0_1_0_0) (blockK 2 (thenK (fun s => cutV (vc Tryd.prog cSmall code_5_1_1_1_1_1 K) (St.norm [] [1] [1] s)) K)) (St.mk 136 [(1, AVal.ptr (Oid.loc 1) 0), (4, AVal.int IntKind.i64 (0 : Int))] [] [(1, AObj.cells [AVal.int IntKind.i64 (Opr.k o), AVal.bool (Opr.edge o), AVal.bool (Opr.out o), AVal.int IntKind.i64 (Opr.id o), AVal.int IntKind.i64 (Opr.fr o), AVal.int IntKind.i64 (Opr.tw o), AVal.int IntKind.i64 (Opr.most o), AVal.int IntKind.i64 (Opr.steps o), AVal.str (Opr.label o), AVal.str (Opr.key o), AVal.slice (prv (Opr.props o)) 4 Tag.ro, AVal.slice (strv (Opr.keys o)) 1 Tag.ro, AVal.int IntKind.i64 (Vl.k (Opr.lo o)), AVal.int IntKind.i64 (Vl.n (Opr.lo o)), AVal.str (Vl.s (Opr.lo o)), AVal.int IntKind.i64 (Vl.k (Opr.hi o)), AVal.int IntKind.i64 (Vl.n (Opr.hi o)), AVal.str (Vl.s (Opr.hi o)), AVal.slice (ndv (Opr.nodes o)) 8 Tag.ro, AVal.slice (lkv (Opr.links o)) 3 Tag.ro])] Sto.empty)) := by kernel_rfl
noncomputable def smallC_S (o : Opr) (i : Nat) : St := St.mk 136 [(1, .ptr (.loc 1) 0), (4, .int .i64 (i : Int))] [] [(1, .cells (Opr.cs o))] (Sto.empty)
noncomputable abbrev smallC_C : Code := code_5_1_1_1_1_0_1_0_0
theorem smallC_r (o : Opr) (i : Nat) (L : St → Prop) (K : Exit → St → Prop) : vc Tryd.prog cSmall code_5_1_1_1_1_0_1_0_0 (thenK (fun s => L (St.norm [] [1, 4] [1] s)) K) (St.mk 136 [(1, .ptr (.loc 1) 0), (4, .int .i64 (i : Int))] [] [(1, .cells (Opr.cs o))] (Sto.empty)) =
  (brV (hold (decide ((↑i : Int) < (↑(List.length (ndv (Opr.nodes o))) : Int)))) true (gb (decide ((0 : Int) ≤ (↑i : Int) ∧ (↑i : Int) < (↑(List.length (ndv (Opr.nodes o))) : Int))) (gb (decide (8 ≤ List.length (elemAt (ndv (Opr.nodes o)) (↑i : Int)) ∧ 0 < 8) && (etaOk Sh.str (List.getD (elemAt (ndv (Opr.nodes o)) (↑i : Int)) 0 AVal.undef) && (etaOk Sh.str (List.getD (elemAt (ndv (Opr.nodes o)) (↑i : Int)) 1 AVal.undef) && (etaOk (Sh.int IntKind.i64) (List.getD (elemAt (ndv (Opr.nodes o)) (↑i : Int)) 2 AVal.undef) && (etaOk (Sh.int IntKind.i64) (List.getD (elemAt (ndv (Opr.nodes o)) (↑i : Int)) 3 AVal.undef) && (etaOk Sh.str (List.getD (elemAt (ndv (Opr.nodes o)) (↑i : Int)) 4 AVal.undef) && (etaOk (Sh.int IntKind.i64) (List.getD (elemAt (ndv (Opr.nodes o)) (↑i : Int)) 5 AVal.undef) && (etaOk (Sh.int IntKind.i64) (List.getD (elemAt (ndv (Opr.nodes o)) (↑i : Int)) 6 AVal.undef) && (etaOk Sh.str (List.getD (elemAt (ndv (Opr.nodes o)) (↑i : Int)) 7 AVal.undef) && true))))))))) (brV (hold (decide ((100 : Int) < (↑(List.length (AVal.strOf (List.getD (elemAt (ndv (Opr.nodes o)) (↑i : Int)) 0 AVal.undef))) : Int)))) false (brV (hold (decide ((100 : Int) < (↑(List.length (AVal.strOf (List.getD (elemAt (ndv (Opr.nodes o)) (↑i : Int)) 1 AVal.undef))) : Int)))) false (brV (hold (decide ((300 : Int) < (↑(List.length (AVal.strOf (List.getD (elemAt (ndv (Opr.nodes o)) (↑i : Int)) 4 AVal.undef))) : Int)))) false (brV (hold (decide ((300 : Int) < (↑(List.length (AVal.strOf (List.getD (elemAt (ndv (Opr.nodes o)) (↑i : Int)) 7 AVal.undef))) : Int)))) true (K Exit.ret (St.mk 136 [(1, AVal.ptr (Oid.loc 1) 0), (4, AVal.int IntKind.i64 (↑i : Int)), (86, AVal.bool (hold (decide ((↑i : Int) < (↑(List.length (ndv (Opr.nodes o))) : Int))))), (5, AVal.ptr (Oid.loc 5) 0), (118, AVal.bool (hold (decide ((300 : Int) < (↑(List.length (AVal.strOf (List.getD (elemAt (ndv (Opr.nodes o)) (↑i : Int)) 7 AVal.undef))) : Int))))), (2, AVal.bool false)] [] [(1, AObj.cells [AVal.int IntKind.i64 (Opr.k o), AVal.bool (Opr.edge o), AVal.bool (Opr.out o), AVal.int IntKind.i64 (Opr.id o), AVal.int IntKind.i64 (Opr.fr o), AVal.int IntKind.i64 (Opr.tw o), AVal.int IntKind.i64 (Opr.most o), AVal.int IntKind.i64 (Opr.steps o), AVal.str (Opr.label o), AVal.str (Opr.key o), AVal.slice (prv (Opr.props o)) 4 Tag.ro, AVal.slice (strv (Opr.keys o)) 1 Tag.ro, AVal.int IntKind.i64 (Vl.k (Opr.lo o)), AVal.int IntKind.i64 (Vl.n (Opr.lo o)), AVal.str (Vl.s (Opr.lo o)), AVal.int IntKind.i64 (Vl.k (Opr.hi o)), AVal.int IntKind.i64 (Vl.n (Opr.hi o)), AVal.str (Vl.s (Opr.hi o)), AVal.slice (ndv (Opr.nodes o)) 8 Tag.ro, AVal.slice (lkv (Opr.links o)) 3 Tag.ro]), (5, AObj.cells [AVal.str (AVal.strOf (List.getD (elemAt (ndv (Opr.nodes o)) (↑i : Int)) 0 AVal.undef)), AVal.str (AVal.strOf (List.getD (elemAt (ndv (Opr.nodes o)) (↑i : Int)) 1 AVal.undef)), AVal.int IntKind.i64 (AVal.intOf (List.getD (elemAt (ndv (Opr.nodes o)) (↑i : Int)) 2 AVal.undef)), AVal.int IntKind.i64 (AVal.intOf (List.getD (elemAt (ndv (Opr.nodes o)) (↑i : Int)) 3 AVal.undef)), AVal.str (AVal.strOf (List.getD (elemAt (ndv (Opr.nodes o)) (↑i : Int)) 4 AVal.undef)), AVal.int IntKind.i64 (AVal.intOf (List.getD (elemAt (ndv (Opr.nodes o)) (↑i : Int)) 5 AVal.undef)), AVal.int IntKind.i64 (AVal.intOf (List.getD (elemAt (ndv (Opr.nodes o)) (↑i : Int)) 6 AVal.undef)), AVal.str (AVal.strOf (List.getD (elemAt (ndv (Opr.nodes o)) (↑i : Int)) 7 AVal.undef))])] Sto.empty)) (L (St.mk 136 [(1, AVal.ptr (Oid.loc 1) 0), (4, AVal.int IntKind.i64 (IntKind.wrap IntKind.i64 ((↑i : Int) + (1 : Int))))] [] [(1, AObj.cells [AVal.int IntKind.i64 (Opr.k o), AVal.bool (Opr.edge o), AVal.bool (Opr.out o), AVal.int IntKind.i64 (Opr.id o), AVal.int IntKind.i64 (Opr.fr o), AVal.int IntKind.i64 (Opr.tw o), AVal.int IntKind.i64 (Opr.most o), AVal.int IntKind.i64 (Opr.steps o), AVal.str (Opr.label o), AVal.str (Opr.key o), AVal.slice (prv (Opr.props o)) 4 Tag.ro, AVal.slice (strv (Opr.keys o)) 1 Tag.ro, AVal.int IntKind.i64 (Vl.k (Opr.lo o)), AVal.int IntKind.i64 (Vl.n (Opr.lo o)), AVal.str (Vl.s (Opr.lo o)), AVal.int IntKind.i64 (Vl.k (Opr.hi o)), AVal.int IntKind.i64 (Vl.n (Opr.hi o)), AVal.str (Vl.s (Opr.hi o)), AVal.slice (ndv (Opr.nodes o)) 8 Tag.ro, AVal.slice (lkv (Opr.links o)) 3 Tag.ro])] Sto.empty))) (K Exit.ret (St.mk 136 [(1, AVal.ptr (Oid.loc 1) 0), (4, AVal.int IntKind.i64 (↑i : Int)), (86, AVal.bool (hold (decide ((↑i : Int) < (↑(List.length (ndv (Opr.nodes o))) : Int))))), (5, AVal.ptr (Oid.loc 5) 0), (118, AVal.bool true), (2, AVal.bool false)] [] [(1, AObj.cells [AVal.int IntKind.i64 (Opr.k o), AVal.bool (Opr.edge o), AVal.bool (Opr.out o), AVal.int IntKind.i64 (Opr.id o), AVal.int IntKind.i64 (Opr.fr o), AVal.int IntKind.i64 (Opr.tw o), AVal.int IntKind.i64 (Opr.most o), AVal.int IntKind.i64 (Opr.steps o), AVal.str (Opr.label o), AVal.str (Opr.key o), AVal.slice (prv (Opr.props o)) 4 Tag.ro, AVal.slice (strv (Opr.keys o)) 1 Tag.ro, AVal.int IntKind.i64 (Vl.k (Opr.lo o)), AVal.int IntKind.i64 (Vl.n (Opr.lo o)), AVal.str (Vl.s (Opr.lo o)), AVal.int IntKind.i64 (Vl.k (Opr.hi o)), AVal.int IntKind.i64 (Vl.n (Opr.hi o)), AVal.str (Vl.s (Opr.hi o)), AVal.slice (ndv (Opr.nodes o)) 8 Tag.ro, AVal.slice (lkv (Opr.links o)) 3 Tag.ro]), (5, AObj.cells [AVal.str (AVal.strOf (List.getD (elemAt (ndv (Opr.nodes o)) (↑i : Int)) 0 AVal.undef)), AVal.str (AVal.strOf (List.getD (elemAt (ndv (Opr.nodes o)) (↑i : Int)) 1 AVal.undef)), AVal.int IntKind.i64 (AVal.intOf (List.getD (elemAt (ndv (Opr.nodes o)) (↑i : Int)) 2 AVal.undef)), AVal.int IntKind.i64 (AVal.intOf (List.getD (elemAt (ndv (Opr.nodes o)) (↑i : Int)) 3 AVal.undef)), AVal.str (AVal.strOf (List.getD (elemAt (ndv (Opr.nodes o)) (↑i : Int)) 4 AVal.undef)), AVal.int IntKind.i64 (AVal.intOf (List.getD (elemAt (ndv (Opr.nodes o)) (↑i : Int)) 5 AVal.undef)), AVal.int IntKind.i64 (AVal.intOf (List.getD (elemAt (ndv (Opr.nodes o)) (↑i : Int)) 6 AVal.undef)), AVal.str (AVal.strOf (List.getD (elemAt (ndv (Opr.nodes o)) (↑i : Int)) 7 AVal.undef))])] Sto.empty))) (K Exit.ret (St.mk 136 [(1, AVal.ptr (Oid.loc 1) 0), (4, AVal.int IntKind.i64 (↑i : Int)), (86, AVal.bool (hold (decide ((↑i : Int) < (↑(List.length (ndv (Opr.nodes o))) : Int))))), (5, AVal.ptr (Oid.loc 5) 0), (118, AVal.bool true), (2, AVal.bool false)] [] [(1, AObj.cells [AVal.int IntKind.i64 (Opr.k o), AVal.bool (Opr.edge o), AVal.bool (Opr.out o), AVal.int IntKind.i64 (Opr.id o), AVal.int IntKind.i64 (Opr.fr o), AVal.int IntKind.i64 (Opr.tw o), AVal.int IntKind.i64 (Opr.most o), AVal.int IntKind.i64 (Opr.steps o), AVal.str (Opr.label o), AVal.str (Opr.key o), AVal.slice (prv (Opr.props o)) 4 Tag.ro, AVal.slice (strv (Opr.keys o)) 1 Tag.ro, AVal.int IntKind.i64 (Vl.k (Opr.lo o)), AVal.int IntKind.i64 (Vl.n (Opr.lo o)), AVal.str (Vl.s (Opr.lo o)), AVal.int IntKind.i64 (Vl.k (Opr.hi o)), AVal.int IntKind.i64 (Vl.n (Opr.hi o)), AVal.str (Vl.s (Opr.hi o)), AVal.slice (ndv (Opr.nodes o)) 8 Tag.ro, AVal.slice (lkv (Opr.links o)) 3 Tag.ro]), (5, AObj.cells [AVal.str (AVal.strOf (List.getD (elemAt (ndv (Opr.nodes o)) (↑i : Int)) 0 AVal.undef)), AVal.str (AVal.strOf (List.getD (elemAt (ndv (Opr.nodes o)) (↑i : Int)) 1 AVal.undef)), AVal.int IntKind.i64 (AVal.intOf (List.getD (elemAt (ndv (Opr.nodes o)) (↑i : Int)) 2 AVal.undef)), AVal.int IntKind.i64 (AVal.intOf (List.getD (elemAt (ndv (Opr.nodes o)) (↑i : Int)) 3 AVal.undef)), AVal.str (AVal.strOf (List.getD (elemAt (ndv (Opr.nodes o)) (↑i : Int)) 4 AVal.undef)), AVal.int IntKind.i64 (AVal.intOf (List.getD (elemAt (ndv (Opr.nodes o)) (↑i : Int)) 5 AVal.undef)), AVal.int IntKind.i64 (AVal.intOf (List.getD (elemAt (ndv (Opr.nodes o)) (↑i : Int)) 6 AVal.undef)), AVal.str (AVal.strOf (List.getD (elemAt (ndv (Opr.nodes o)) (↑i : Int)) 7 AVal.undef))])] Sto.empty))) (K Exit.ret (St.mk 136 [(1, AVal.ptr (Oid.loc 1) 0), (4, AVal.int IntKind.i64 (↑i : Int)), (86, AVal.bool (hold (decide ((↑i : Int) < (↑(List.length (ndv (Opr.nodes o))) : Int))))), (5, AVal.ptr (Oid.loc 5) 0), (118, AVal.bool true), (2, AVal.bool false)] [] [(1, AObj.cells [AVal.int IntKind.i64 (Opr.k o), AVal.bool (Opr.edge o), AVal.bool (Opr.out o), AVal.int IntKind.i64 (Opr.id o), AVal.int IntKind.i64 (Opr.fr o), AVal.int IntKind.i64 (Opr.tw o), AVal.int IntKind.i64 (Opr.most o), AVal.int IntKind.i64 (Opr.steps o), AVal.str (Opr.label o), AVal.str (Opr.key o), AVal.slice (prv (Opr.props o)) 4 Tag.ro, AVal.slice (strv (Opr.keys o)) 1 Tag.ro, AVal.int IntKind.i64 (Vl.k (Opr.lo o)), AVal.int IntKind.i64 (Vl.n (Opr.lo o)), AVal.str (Vl.s (Opr.lo o)), AVal.int IntKind.i64 (Vl.k (Opr.hi o)), AVal.int IntKind.i64 (Vl.n (Opr.hi o)), AVal.str (Vl.s (Opr.hi o)), AVal.slice (ndv (Opr.nodes o)) 8 Tag.ro, AVal.slice (lkv (Opr.links o)) 3 Tag.ro]), (5, AObj.cells [AVal.str (AVal.strOf (List.getD (elemAt (ndv (Opr.nodes o)) (↑i : Int)) 0 AVal.undef)), AVal.str (AVal.strOf (List.getD (elemAt (ndv (Opr.nodes o)) (↑i : Int)) 1 AVal.undef)), AVal.int IntKind.i64 (AVal.intOf (List.getD (elemAt (ndv (Opr.nodes o)) (↑i : Int)) 2 AVal.undef)), AVal.int IntKind.i64 (AVal.intOf (List.getD (elemAt (ndv (Opr.nodes o)) (↑i : Int)) 3 AVal.undef)), AVal.str (AVal.strOf (List.getD (elemAt (ndv (Opr.nodes o)) (↑i : Int)) 4 AVal.undef)), AVal.int IntKind.i64 (AVal.intOf (List.getD (elemAt (ndv (Opr.nodes o)) (↑i : Int)) 5 AVal.undef)), AVal.int IntKind.i64 (AVal.intOf (List.getD (elemAt (ndv (Opr.nodes o)) (↑i : Int)) 6 AVal.undef)), AVal.str (AVal.strOf (List.getD (elemAt (ndv (Opr.nodes o)) (↑i : Int)) 7 AVal.undef))])] Sto.empty))))) (K (Exit.exit 2) (St.mk 136 [(1, AVal.ptr (Oid.loc 1) 0), (4, AVal.int IntKind.i64 (↑i : Int)), (86, AVal.bool (hold (decide ((↑i : Int) < (↑(List.length (ndv (Opr.nodes o))) : Int)))))] [] [(1, AObj.cells [AVal.int IntKind.i64 (Opr.k o), AVal.bool (Opr.edge o), AVal.bool (Opr.out o), AVal.int IntKind.i64 (Opr.id o), AVal.int IntKind.i64 (Opr.fr o), AVal.int IntKind.i64 (Opr.tw o), AVal.int IntKind.i64 (Opr.most o), AVal.int IntKind.i64 (Opr.steps o), AVal.str (Opr.label o), AVal.str (Opr.key o), AVal.slice (prv (Opr.props o)) 4 Tag.ro, AVal.slice (strv (Opr.keys o)) 1 Tag.ro, AVal.int IntKind.i64 (Vl.k (Opr.lo o)), AVal.int IntKind.i64 (Vl.n (Opr.lo o)), AVal.str (Vl.s (Opr.lo o)), AVal.int IntKind.i64 (Vl.k (Opr.hi o)), AVal.int IntKind.i64 (Vl.n (Opr.hi o)), AVal.str (Vl.s (Opr.hi o)), AVal.slice (ndv (Opr.nodes o)) 8 Tag.ro, AVal.slice (lkv (Opr.links o)) 3 Tag.ro])] Sto.empty))) := by kernel_rfl
noncomputable def smallD_S (o : Opr) : St := St.mk 136 [(1, .ptr (.loc 1) 0)] [] [(1, .cells (Opr.cs o))] (Sto.empty)
noncomputable abbrev smallD_C : Code := code_5_1_1_1_1_1
theorem smallD_r (o : Opr) (K : Exit → St → Prop) : vc Tryd.prog cSmall code_5_1_1_1_1_1 K (St.mk 136 [(1, .ptr (.loc 1) 0)] [] [(1, .cells (Opr.cs o))] (Sto.empty)) =
  (loopV (fun s => St.norm [] [1, 6] [1] s) (vc Tryd.prog cSmall code_5_1_1_1_1_1_0_1_0_0) (blockK 4 (thenK (vc Tryd.prog cSmall code_5_1_1_1_1_1_1 K) K)) (St.mk 136 [(1, AVal.ptr (Oid.loc 1) 0), (6, AVal.int IntKind.i64 (0 : Int))] [] [(1, AObj.cells [AVal.int IntKind.i64 (Opr.k o), AVal.bool (Opr.edge o), AVal.bool (Opr.out o), AVal.int IntKind.i64 (Opr.id o), AVal.int IntKind.i64 (Opr.fr o), AVal.int IntKind.i64 (Opr.tw o), AVal.int IntKind.i64 (Opr.most o), AVal.int IntKind.i64 (Opr.steps o), AVal.str (Opr.label o), AVal.str (Opr.key o), AVal.slice (prv (Opr.props o)) 4 Tag.ro, AVal.slice (strv (Opr.keys o)) 1 Tag.ro, AVal.int IntKind.i64 (Vl.k (Opr.lo o)), AVal.int IntKind.i64 (Vl.n (Opr.lo o)), AVal.str (Vl.s (Opr.lo o)), AVal.int IntKind.i64 (Vl.k (Opr.hi o)), AVal.int IntKind.i64 (Vl.n (Opr.hi o)), AVal.str (Vl.s (Opr.hi o)), AVal.slice (ndv (Opr.nodes o)) 8 Tag.ro, AVal.slice (lkv (Opr.links o)) 3 Tag.ro])] Sto.empty)) := by kernel_rfl
noncomputable def smallF_S (o : Opr) (i : Nat) : St := St.mk 136 [(1, .ptr (.loc 1) 0), (6, .int .i64 (i : Int))] [] [(1, .cells (Opr.cs o))] (Sto.empty)
noncomputable abbrev smallF_C : Code := code_5_1_1_1_1_1_0_1_0_0
theorem smallF_r (o : Opr) (i : Nat) (L : St → Prop) (K : Exit → St → Prop) : vc Tryd.prog cSmall code_5_1_1_1_1_1_0_1_0_0 (thenK (fun s => L (St.norm [] [1, 6] [1] s)) K) (St.mk 136 [(1, .ptr (.loc 1) 0), (6, .int .i64 (i : Int))] [] [(1, .cells (Opr.cs o))] (Sto.empty)) =
  (brV (hold (decide ((↑i : Int) < (↑(List.length (lkv (Opr.links o))) : Int)))) true (gb (decide ((0 : Int) ≤ (↑i : Int) ∧ (↑i : Int) < (↑(List.length (lkv (Opr.links o))) : Int))) (gb (decide (1 ≤ List.length (List.drop 2 (elemAt (lkv (Opr.links o)) (↑i : Int))) ∧ 0 < 1) && etaOk Sh.str (List.getD (List.drop 2 (elemAt (lkv (Opr.links o)) (↑i : Int))) 0 AVal.undef)) (brV (hold (decide ((100 : Int) < (↑(List.length (AVal.strOf (List.getD (List.drop 2 (elemAt (lkv (Opr.links o)) (↑i : Int))) 0 AVal.undef))) : Int)))) true (K Exit.ret (St.mk 136 [(1, AVal.ptr (Oid.loc 1) 0), (6, AVal.int IntKind.i64 (↑i : Int)), (124, AVal.bool (hold (decide ((↑i : Int) < (↑(List.length (lkv (Opr.links o))) : Int))))), (135, AVal.bool (hold (decide ((100 : Int) < (↑(List.length (AVal.strOf (List.getD (List.drop 2 (elemAt (lkv (Opr.links o)) (↑i : Int))) 0 AVal.undef))) : Int))))), (2, AVal.bool false)] [] [(1, AObj.cells [AVal.int IntKind.i64 (Opr.k o), AVal.bool (Opr.edge o), AVal.bool (Opr.out o), AVal.int IntKind.i64 (Opr.id o), AVal.int IntKind.i64 (Opr.fr o), AVal.int IntKind.i64 (Opr.tw o), AVal.int IntKind.i64 (Opr.most o), AVal.int IntKind.i64 (Opr.steps o), AVal.str (Opr.label o), AVal.str (Opr.key o), AVal.slice (prv (Opr.props o)) 4 Tag.ro, AVal.slice (strv (Opr.keys o)) 1 Tag.ro, AVal.int IntKind.i64 (Vl.k (Opr.lo o)), AVal.int IntKind.i64 (Vl.n (Opr.lo o)), AVal.str (Vl.s (Opr.lo o)), AVal.int IntKind.i64 (Vl.k (Opr.hi o)), AVal.int IntKind.i64 (Vl.n (Opr.hi o)), AVal.str (Vl.s (Opr.hi o)), AVal.slice (ndv (Opr.nodes o)) 8 Tag.ro, AVal.slice (lkv (Opr.links o)) 3 Tag.ro])] Sto.empty)) (L (St.mk 136 [(1, AVal.ptr (Oid.loc 1) 0), (6, AVal.int IntKind.i64 (IntKind.wrap IntKind.i64 ((↑i : Int) + (1 : Int))))] [] [(1, AObj.cells [AVal.int IntKind.i64 (Opr.k o), AVal.bool (Opr.edge o), AVal.bool (Opr.out o), AVal.int IntKind.i64 (Opr.id o), AVal.int IntKind.i64 (Opr.fr o), AVal.int IntKind.i64 (Opr.tw o), AVal.int IntKind.i64 (Opr.most o), AVal.int IntKind.i64 (Opr.steps o), AVal.str (Opr.label o), AVal.str (Opr.key o), AVal.slice (prv (Opr.props o)) 4 Tag.ro, AVal.slice (strv (Opr.keys o)) 1 Tag.ro, AVal.int IntKind.i64 (Vl.k (Opr.lo o)), AVal.int IntKind.i64 (Vl.n (Opr.lo o)), AVal.str (Vl.s (Opr.lo o)), AVal.int IntKind.i64 (Vl.k (Opr.hi o)), AVal.int IntKind.i64 (Vl.n (Opr.hi o)), AVal.str (Vl.s (Opr.hi o)), AVal.slice (ndv (Opr.nodes o)) 8 Tag.ro, AVal.slice (lkv (Opr.links o)) 3 Tag.ro])] Sto.empty))))) (K (Exit.exit 4) (St.mk 136 [(1, AVal.ptr (Oid.loc 1) 0), (6, AVal.int IntKind.i64 (↑i : Int)), (124, AVal.bool (hold (decide ((↑i : Int) < (↑(List.length (lkv (Opr.links o))) : Int)))))] [] [(1, AObj.cells [AVal.int IntKind.i64 (Opr.k o), AVal.bool (Opr.edge o), AVal.bool (Opr.out o), AVal.int IntKind.i64 (Opr.id o), AVal.int IntKind.i64 (Opr.fr o), AVal.int IntKind.i64 (Opr.tw o), AVal.int IntKind.i64 (Opr.most o), AVal.int IntKind.i64 (Opr.steps o), AVal.str (Opr.label o), AVal.str (Opr.key o), AVal.slice (prv (Opr.props o)) 4 Tag.ro, AVal.slice (strv (Opr.keys o)) 1 Tag.ro, AVal.int IntKind.i64 (Vl.k (Opr.lo o)), AVal.int IntKind.i64 (Vl.n (Opr.lo o)), AVal.str (Vl.s (Opr.lo o)), AVal.int IntKind.i64 (Vl.k (Opr.hi o)), AVal.int IntKind.i64 (Vl.n (Opr.hi o)), AVal.str (Vl.s (Opr.hi o)), AVal.slice (ndv (Opr.nodes o)) 8 Tag.ro, AVal.slice (lkv (Opr.links o)) 3 Tag.ro])] Sto.empty))) := by kernel_rfl
end Go.Proofs.YtcijjgfadkflmaaDoor
end

section
namespace Go.Proofs.YtcijjgfadkflmaaDoor
open Go.AL
set_option linter.unusedSimpArgs false
set_option linter.unusedVariables false
set_option maxHeartbeats 4000000
set_option maxRecDepth 20000
theorem all_no {α : Type} {p : α → Bool} {l : List α} {i : Nat} (h : i < l.length) (hp : p l[i] = false) : l.all p = false := by
  cases ha : l.all p with
  | false => rfl
  | true => rw [List.all_eq_true.1 ha _ (List.getElem_mem h)] at hp; cases hp
theorem all_yes {α : Type} {p : α → Bool} {l : List α} (h : ∀ j (hj : j < l.length), p l[j] = true) : l.all p = true := by
  rw [List.all_eq_true]
  intro x hx
  obtain ⟨j, hj, rfl⟩ := List.getElem_of_mem hx
  exact h j hj
theorem smallD_c (o : Opr) (z : Bool) (hl : o.links.length ≤ 20) (hz : z = o.links.all smallL) : vc Tryd.prog cSmall smallD_C (endK Tryd.prog Tryd.f5.results.toList fun r _ => Wk r (.bool z)) (smallD_S o) := by
  refine Eq.mpr (smallD_r o _) ?_
  refine loopV_intro (α := Nat) (fun i => smallF_S o i) (fun i => i ≤ o.links.length ∧ ∀ j (hj : j < o.links.length), j < i → smallL o.links[j] = true) (fun i => o.links.length - i) ?_ 0 ⟨Nat.zero_le _, fun j _ h => by omega⟩
  rintro i ⟨hi, hpre⟩ L hL
  refine Eq.mpr (smallF_r o i L _) ?_
  have e1 := lkv_len o.links
  simp only [hold_eq]
  with_reducible refine brV_by (fun h => ?_) (fun h => ?_)
  · have hlt : i < o.links.length := by have := of_decide_eq_true h; omega
    rw [i64_succ hlt (by omega), elemAt_lkv o.links i hlt]
    have no : smallL o.links[i] = false → Wk (.bool false) (.bool z) := fun h => by rw [hz, all_no hlt h]; exact .refl _
    refine gb_by (dt (by omega)) (gb_by rfl ?_)
    with_reducible refine brV_by (fun h0 => ?_) (fun h0 => ?_)
    · refine no ?_
      have h0 := of_decide_eq_true h0
      refine decide_eq_false fun hh => ?_
      have h0 : (100 : Int) < (o.links[i].label.length : Int) := h0
      omega
    have h0 : ¬ (100 : Int) < (o.links[i].label.length : Int) := of_decide_eq_false h0
    have he : smallL o.links[i] = true := decide_eq_true (by omega)
    refine hL (i + 1) ⟨hlt, fun j hj hji => ?_⟩ (by omega)
    rcases Nat.lt_or_ge j i with h9 | h9
    · exact hpre j hj h9
    · obtain rfl : j = i := by omega
      exact he
  · have hge : i = o.links.length := by have := of_decide_eq_false h; omega
    have hall : o.links.all smallL = true := all_yes fun j hj => hpre j hj (by omega)
    exact leaveTo (by rw [hz, hall]; exact Wk.refl _)
theorem smallB_c (o : Opr) (z : Bool) (hn : o.nodes.length ≤ 4) (hl : o.links.length ≤ 20) (hz : z = (o.nodes.all smallN && o.links.all smallL)) : vc Tryd.prog cSmall smallB_C (endK Tryd.prog Tryd.f5.results.toList fun r _ => Wk r (.bool z)) (smallB_S o) := by
  refine Eq.mpr (smallB_r o _) ?_
  refine loopV_intro (α := Nat) (fun i => smallC_S o i) (fun i => i ≤ o.nodes.length ∧ ∀ j (hj : j < o.nodes.length), j < i → smallN o.nodes[j] = true) (fun i => o.nodes.length - i) ?_ 0 ⟨Nat.zero_le _, fun j _ h => by omega⟩
  rintro i ⟨hi, hpre⟩ L hL
  refine Eq.mpr (smallC_r o i L _) ?_
  have e1 := ndv_len o.nodes
  simp only [hold_eq]
  with_reducible refine brV_by (fun h => ?_) (fun h => ?_)
  · have hlt : i < o.nodes.length := by have := of_decide_eq_true h; omega
    rw [i64_succ hlt (by omega), elemAt_ndv o.nodes i hlt]
    have no : smallN o.nodes[i] = false → Wk (.bool false) (.bool z) := fun h => by rw [hz, all_no hlt h, Bool.false_and]; exact .refl _
    refine gb_by (dt (by omega)) (gb_by rfl ?_)
    with_reducible refine brV_by' (fun h0 => ?_) (fun h0 => ?_)
    rotate_left
    · refine no ?_
      have h0 := of_decide_eq_true h0
      refine decide_eq_false fun hh => ?_
      have h0 : (100 : Int) < (o.nodes[i].label.length : Int) := h0
      omega
    with_reducible refine brV_by' (fun h1 => ?_) (fun h1 => ?_)
    rotate_left
    · refine no ?_
      have h1 := of_decide_eq_true h1
      refine decide_eq_false fun hh => ?_
      have h1 : (100 : Int) < (o.nodes[i].key.length : Int) := h1
      omega
    with_reducible refine brV_by' (fun h2 => ?_) (fun h2 => ?_)
    rotate_left
    · refine no ?_
      have h2 := of_decide_eq_true h2
      refine decide_eq_false fun hh => ?_
      have h2 : (300 : Int) < (o.nodes[i].lo.s.length : Int) := h2
      omega
    with_reducible refine brV_by (fun h3 => ?_) (fun h3 => ?_)
    · refine no ?_
      have h3 := of_decide_eq_true h3
      refine decide_eq_false fun hh => ?_
      simp only [AVal.strOf, List.getD, List.drop] at h3
      have h3 : (300 : Int) < (o.nodes[i].hi.s.length : Int) := h3
      omega
    have h0 : ¬ (100 : Int) < (o.nodes[i].label.length : Int) := of_decide_eq_false h0
    have h1 : ¬ (100 : Int) < (o.nodes[i].key.length : Int) := of_decide_eq_false h1
    have h2 : ¬ (300 : Int) < (o.nodes[i].lo.s.length : Int) := of_decide_eq_false h2
    have h3 : ¬ (300 : Int) < (o.nodes[i].hi.s.length : Int) := of_decide_eq_false h3
    have he : smallN o.nodes[i] = true := decide_eq_true (⟨by omega, by omega, by omega, by omega⟩)
    refine hL (i + 1) ⟨hlt, fun j hj hji => ?_⟩ (by omega)
    rcases Nat.lt_or_ge j i with h9 | h9
    · exact hpre j hj h9
    · obtain rfl : j = i := by omega
      exact he
  · have hge : i = o.nodes.length := by have := of_decide_eq_false h; omega
    have hall : o.nodes.all smallN = true := all_yes fun j hj => hpre j hj (by omega)
    exact leaveK (Lt.thenN (toCut (smallD_c o z hl (by rw [hz, hall, Bool.true_and]))))
theorem small_c (o : Opr) : ACall Tryd.prog 5 [Opr.a o] Sto.empty fun r _ => Wk r (.bool (smallT o)) := by
  refine small_i o _ (.of_none rfl) ?_
  simp only [hold_eq, prv_len, strv_length, ndv_len, lkv_len]
  have no0 : small0 o = false → Wk (.bool false) (.bool (smallT o)) := fun h => by rw [smallT, h, Bool.false_and]; exact .refl _
  have no1 : small1 o = false → Wk (.bool false) (.bool (smallT o)) := fun h => by rw [smallT, h, Bool.false_and, Bool.and_false]; exact .refl _
  with_reducible refine brV_by' (fun h0 => ?_) (fun h0 => ?_)
  rotate_left
  · have h0 : (100 : Int) < (o.label.length : Int) := of_decide_eq_true h0
    exact no0 (decide_eq_false fun hh => by omega)
  have h0 : ¬ (100 : Int) < (o.label.length : Int) := of_decide_eq_false h0
  with_reducible refine brV_by' (fun h1 => ?_) (fun h1 => ?_)
  rotate_left
  · have h1 : (100 : Int) < (o.key.length : Int) := of_decide_eq_true h1
    exact no0 (decide_eq_false fun hh => by omega)
  have h1 : ¬ (100 : Int) < (o.key.length : Int) := of_decide_eq_false h1
  with_reducible refine brV_by' (fun h2 => ?_) (fun h2 => ?_)
  rotate_left
  · have h2 : (300 : Int) < (o.lo.s.length : Int) := of_decide_eq_true h2
    exact no0 (decide_eq_false fun hh => by omega)
  have h2 : ¬ (300 : Int) < (o.lo.s.length : Int) := of_decide_eq_false h2
  with_reducible refine brV_by' (fun h3 => ?_) (fun h3 => ?_)
  rotate_left
  · have h3 : (300 : Int) < (o.hi.s.length : Int) := of_decide_eq_true h3
    exact no0 (decide_eq_false fun hh => by omega)
  have h3 : ¬ (300 : Int) < (o.hi.s.length : Int) := of_decide_eq_false h3
  with_reducible refine brV_by' (fun h4 => ?_) (fun h4 => ?_)
  rotate_left
  · have h4 : (20 : Int) < (o.props.length : Int) := of_decide_eq_true h4
    exact no0 (decide_eq_false fun hh => by omega)
  have h4 : ¬ (20 : Int) < (o.props.length : Int) := of_decide_eq_false h4
  with_reducible refine brV_by (fun h5 => ?_) (fun h5 => ?_)
  · have h5 : (20 : Int) < (o.keys.length : Int) := of_decide_eq_true h5
    exact no0 (decide_eq_false fun hh => by omega)
  have h5 : ¬ (20 : Int) < (o.keys.length : Int) := of_decide_eq_false h5
  have hs0 : small0 o = true := decide_eq_true ⟨by omega, by omega, by omega, by omega, by omega, by omega⟩
  with_reducible refine brV_by' (fun h6 => ?_) (fun h6 => ?_)
  rotate_left
  · have h6 : (4 : Int) < (o.nodes.length : Int) := of_decide_eq_true h6
    exact no1 (decide_eq_false fun hh => by omega)
  have h6 : ¬ (4 : Int) < (o.nodes.length : Int) := of_decide_eq_false h6
  with_reducible refine brV_by (fun h7 => ?_) (fun h7 => ?_)
  · have h7 : (20 : Int) < (o.links.length : Int) := of_decide_eq_true h7
    exact no1 (decide_eq_false fun hh => by omega)
  have h7 : ¬ (20 : Int) < (o.links.length : Int) := of_decide_eq_false h7
  have hs1 : small1 o = true := decide_eq_true ⟨by omega, by omega⟩
  obtain ⟨z, hz⟩ : ∃ z, z = smallT o := ⟨_, rfl⟩
  rw [← hz]
  have hz : z = (o.props.all smallP && (o.nodes.all smallN && o.links.all smallL)) := by rw [hz, smallT, hs0, hs1, Bool.true_and, Bool.true_and]
  clear no0 no1 hs0 hs1
  refine loopV_intro (α := Nat) (fun i => smallA_S o i) (fun i => i ≤ o.props.length ∧ ∀ j (hj : j < o.props.length), j < i → smallP o.props[j] = true) (fun i => o.props.length - i) ?_ 0 ⟨Nat.zero_le _, fun j _ h => by omega⟩
  rintro i ⟨hi, hpre⟩ L hL
  refine Eq.mpr (smallA_r o i L _) ?_
  have e1 := prv_len o.props
  simp only [hold_eq]
  with_reducible refine brV_by (fun h => ?_) (fun h => ?_)
  · have hlt : i < o.props.length := by have := of_decide_eq_true h; omega
    rw [i64_succ hlt (by omega), elemAt_prv o.props i hlt]
    have no : smallP o.props[i] = false → Wk (.bool false) (.bool z) := fun h => by rw [hz, all_no hlt h, Bool.false_and]; exact .refl _
    refine gb_by (dt (by omega)) (gb_by rfl ?_)
    with_reducible refine brV_by' (fun h0 => ?_) (fun h0 => ?_)
    rotate_left
    · refine no ?_
      have h0 := of_decide_eq_true h0
      refine decide_eq_false fun hh => ?_
      have h0 : (100 : Int) < (o.props[i].key.length : Int) := h0
      omega
    refine gb_by (dt (by omega)) (gb_by rfl ?_)
    with_reducible refine brV_by (fun h1 => ?_) (fun h1 => ?_)
    · refine no ?_
      have h1 := of_decide_eq_true h1
      refine decide_eq_false fun hh => ?_
      simp only [AVal.strOf, List.getD, List.drop] at h1
      have h1 : (300 : Int) < (o.props[i].v.s.length : Int) := h1
      omega
    have h0 : ¬ (100 : Int) < (o.props[i].key.length : Int) := of_decide_eq_false h0
    have h1 : ¬ (300 : Int) < (o.props[i].v.s.length : Int) := of_decide_eq_false h1
    have he : smallP o.props[i] = true := decide_eq_true (⟨by omega, by omega⟩)
    refine hL (i + 1) ⟨hlt, fun j hj hji => ?_⟩ (by omega)
    rcases Nat.lt_or_ge j i with h9 | h9
    · exact hpre j hj h9
    · obtain rfl : j = i := by omega
      exact he
  · have hge : i = o.props.length := by have := of_decide_eq_false h; omega
    have hall : o.props.all smallP = true := all_yes fun j hj => hpre j hj (by omega)
    exact leaveK (Lt.thenN (toCut (smallB_c o z (by omega) (by omega) (by rw [hz, hall, Bool.true_and]))))
theorem small_ok : EntOk Tryd.prog smallE := by
  intro xs σ; simp only [smallE]; split
  · rename_i cs
    refine oprE_eq (fun o ho => ?_) (fun o hc => by cases hc)
    subst ho
    intro hc
    exact pcall_of (.refl _) (small_c o) (noOut_opr o) (noTok_opr o) rfl rfl
  · trivial
end Go.Proofs.YtcijjgfadkflmaaDoor
end

section
namespace Go.Proofs.YtcijjgfadkflmaaDoor
open Go.AL
set_option linter.unusedSimpArgs false
set_option linter.unusedVariables false
set_option maxHeartbeats 1000000
theorem quoR_len' (r : Int) : (quoR r).length ≤ 5 := by
  have := encA_len r
  unfold quoR
  rw [List.length_append]
  split <;> split <;> simp <;> omega
theorem quo_len' : ∀ l : List Int, (l.flatMap quoR).length ≤ 5 * l.length
  | [] => Nat.zero_le _
  | r :: l => by
    have := quo_len' l
    have := quoR_len' r
    simp only [List.flatMap_cons, List.length_append, List.length_cons] at *
    omega
theorem quoT_len' (s : Txt) : (quoT s).length ≤ 5 * s.length + 2 := by
  have := quo_len' (runeL s)
  have := runeL_len s
  simp only [quoT, List.length_cons, List.length_append, List.length_nil] at *
  omega
theorem printV_len (v : Vl) (h0 : -9223372036854775808 ≤ v.n) (h1 : v.n ≤ 9223372036854775807) : (printV v).length ≤ 2000 := by
  unfold printV
  split
  · exact Nat.le_trans (Lib.itoa_length_le _ h0 h1) (by omega)
  · split
    · rename_i h
      have := quoT_len' v.s
      omega
    · simp
def short (B : Nat) (l : List Txt) : Prop := ∀ w ∈ l, w.length ≤ B
theorem short_nil (B : Nat) : short B [] := fun w h => by cases h
theorem short_cons {B : Nat} {w : Txt} {l : List Txt} (h : w.length ≤ B) (t : short B l) : short B (w :: l) := fun x hx => by
  rcases List.mem_cons.1 hx with rfl | hx
  · exact h
  · exact t x hx
theorem short_append {B : Nat} {l r : List Txt} (h : short B l) (t : short B r) : short B (l ++ r) := fun x hx => by
  rcases List.mem_append.1 hx with hx | hx
  · exact h x hx
  · exact t x hx
theorem short_flat {B : Nat} {α : Type} {f : α → List Txt} {l : List α} (h : ∀ x ∈ l, short B (f x)) : short B (l.flatMap f) := fun w hw => by
  obtain ⟨x, hx, hw⟩ := List.mem_flatMap.1 hw
  exact h x hx w hw
theorem join_len' (B : Nat) : ∀ l : List Txt, short B l → (joinT l).length ≤ l.length * (B + 1)
  | [], _ => by simp [joinT, Lib.join]
  | [x], h => by
    have := h x (List.mem_cons_self ..)
    simp [joinT, Lib.join_one]
    omega
  | x :: y :: l, h => by
    have h1 := h x (List.mem_cons_self ..)
    have ih := join_len' B (y :: l) fun w hw => h w (List.mem_cons_of_mem _ hw)
    have e : joinT (x :: y :: l) = x ++ [32] ++ joinT (y :: l) := by
      simp [joinT, Lib.join, List.intercalate, List.intersperse, List.flatten]
    rw [e, List.length_append, List.length_append]
    show _ ≤ ((y :: l).length + 1) * (B + 1)
    rw [Nat.add_mul, Nat.one_mul]
    have : ([32] : Txt).length = 1 := rfl
    omega
theorem sideW_len (b : Bool) : (sideW b).length ≤ 2000 := by cases b <;> decide
theorem labelW_len (s : Txt) (h : s.length ≤ 100) : (labelW s).length ≤ 2000 := by
  unfold labelW
  split
  · decide
  · omega
theorem itoa_2000 (n : Int) (h : -9223372036854775808 ≤ n ∧ n ≤ 9223372036854775807) : (Lib.itoa n).length ≤ 2000 := Nat.le_trans (Lib.itoa_length_le _ h.1 h.2) (by omega)
theorem short_node (n : Nd) (h : smallN n = true) (h1 : -9223372036854775808 ≤ n.lo.n ∧ n.lo.n ≤ 9223372036854775807) (h2 : -9223372036854775808 ≤ n.hi.n ∧ n.hi.n ≤ 9223372036854775807) : short 2000 (nodeW n) := by
  simp only [smallN, decide_eq_true_eq] at h
  obtain ⟨a1, a2, _, _⟩ := h
  unfold nodeW
  split
  · exact short_cons (by omega) (short_nil _)
  · exact short_cons (by omega) (short_cons (by omega) (short_cons (printV_len _ h1.1 h1.2) (short_cons (printV_len _ h2.1 h2.2) (short_nil _))))
theorem short_props (o : Opr) (hf : o.fit) (h : o.props.all smallP = true) : short 2000 (propW o.props) := by
  unfold propW
  split
  · exact short_nil _
  · refine short_cons (by decide) (short_append (short_flat fun p hp => ?_) (short_cons (by decide) (short_nil _)))
    have h1 := List.all_eq_true.1 h p hp
    simp only [smallP, decide_eq_true_eq] at h1
    have h2 := hf.props p hp
    exact short_cons (by omega) (short_cons (by decide) (short_cons (printV_len _ h2.1 h2.2) (short_nil _)))
theorem short_words (o : Opr) (hf : o.fit) (hs : smallT o = true) (K : Nat) (hK : ∀ k ∈ o.keys, k.length ≤ K) :
    (short 2000 (wordsO o) ∧ (wordsO o).length ≤ 1000) ∨ (short (K + 2000) (wordsO o) ∧ (wordsO o).length ≤ 23) := by
  have hm := wordsO_many o
  simp only [smallT, Bool.and_eq_true, small0, small1, decide_eq_true_eq] at hs
  obtain ⟨⟨s1, s2, s3, s4, s5, s6⟩, ⟨s7, s8⟩, s9, s10, s11⟩ := hs
  by_cases h4 : o.k = 4
  · refine .inr ?_
    have e : wordsO o = wUnset :: sideW o.edge :: Lib.itoa o.id :: o.keys := by unfold wordsO; rw [if_neg (by omega), if_neg (by omega), if_neg (by omega), if_pos h4]
    rw [e]
    have a1 := sideW_len o.edge
    have a2 := itoa_2000 o.id hf.id
    refine ⟨short_cons (Nat.le_trans (show (wUnset).length ≤ 2000 by decide) (by omega)) (short_cons (by omega) (short_cons (by omega) fun k hk => ?_)), by simp only [List.length_cons]; omega⟩
    have := hK k hk
    omega
  · refine .inl ⟨?_, by omega⟩
    have hp := short_props o hf s9
    have ni := itoa_2000 o.id hf.id; have nf := itoa_2000 o.fr hf.fr; have nt := itoa_2000 o.tw hf.tw; have nm := itoa_2000 o.most hf.most
    have hl := labelW_len o.label s1
    have hsd := sideW_len o.edge
    unfold wordsO
    split
    · exact short_cons (by decide) (short_cons ni (short_cons (by omega) hp))
    split
    · exact short_cons (by decide) (short_cons ni (short_cons (by omega) (short_cons nf (short_cons nt hp))))
    split
    · exact short_cons (by decide) (short_cons hsd (short_cons ni hp))
    split
    · exact short_cons (by decide) (short_cons hsd (short_cons ni (short_nil _)))
    split
    · exact short_cons (by decide) (short_cons hsd (short_cons ni (short_nil _)))
    split
    · exact short_cons (by cases o.out <;> decide) (short_cons ni (short_cons hl (short_nil _)))
    split
    · exact short_cons (by decide) (short_node ⟨o.label, o.key, o.lo, o.hi⟩ (by simp only [smallN, decide_eq_true_eq]; exact ⟨s1, s2, s3, s4⟩) hf.lo hf.hi)
    split
    · exact short_cons (by decide) (short_cons nf (short_cons nt (short_cons hl (short_cons nm (short_nil _)))))
    split
    · refine short_cons (by decide) (short_cons nm (short_append (short_flat fun n hn => ?_) (short_flat fun x hx => ?_)))
      · have f := hf.nodes n hn
        exact short_append (short_cons (by decide) (short_node n (List.all_eq_true.1 s10 n hn) f.1 f.2)) (short_cons (by decide) (short_nil _))
      · have f := hf.links x hx
        have g := List.all_eq_true.1 s11 x hx
        simp only [smallL, decide_eq_true_eq] at g
        exact short_cons (by decide) (short_cons (itoa_2000 _ f.1) (short_cons (labelW_len _ g) (short_cons (itoa_2000 _ f.2) (short_cons (by decide) (short_nil _)))))
    · exact short_nil _
theorem join_small (x : Ak) (hf : x.op.fit) (hs : smallT x.op = true) (hK : ∀ k ∈ x.op.keys, k.length ≤ 2000000000000) : (joinT (wordsA x)).length ≤ 100000000000000 ∧ (wordsO x.op).length ≤ 1000000 := by
  have h := short_words x.op hf hs 2000000000000 hK
  refine ⟨?_, by rcases h with h | h <;> omega⟩
  unfold wordsA
  split
  · decide
  split
  · decide
  split
  · decide
  rcases h with ⟨h1, h2⟩ | ⟨h1, h2⟩
  · have := join_len' _ _ h1
    have h3 : (wordsO x.op).length * (2000 + 1) ≤ 1000 * (2000 + 1) := Nat.mul_le_mul_right _ h2
    omega
  · have := join_len' _ _ h1
    have h3 : (wordsO x.op).length * (2000000000000 + 2000 + 1) ≤ 23 * (2000000000000 + 2000 + 1) := Nat.mul_le_mul_right _ h2
    omega
/-! ### The law -/
theorem sameO_iff (x y : Opr) : sameO x y = true ↔ y = { x with steps := y.steps } := by
  cases x; cases y
  simp only [sameO, decide_eq_true_eq, Opr.mk.injEq]
  constructor
  · rintro ⟨h1, h2, h3, h4, h5, h6, h7, h8, h9, h10, h11, h12, h13, h14, h15⟩
    simp_all
  · intro h
    simp_all
theorem sameA_words {x y : Ak} (h : sameA x y = true) : wordsA x = wordsA y := by
  simp only [sameA, Bool.and_eq_true, decide_eq_true_eq] at h
  obtain ⟨h1, h2⟩ := h
  rw [sameO_iff] at h2
  unfold wordsA
  rw [h1, h2]
  rfl
theorem sameA_join {x y p : Ak} (h1 : sameA x p = true) (h2 : sameA y p = true) : sameA x y = true := by
  simp only [sameA, Bool.and_eq_true, decide_eq_true_eq] at h1 h2 ⊢
  obtain ⟨a1, a2⟩ := h1
  obtain ⟨b1, b2⟩ := h2
  refine ⟨a1.trans b1.symm, ?_⟩
  simp only [sameO, decide_eq_true_eq] at a2 b2 ⊢
  obtain ⟨h1, h2, h3, h4, h5, h6, h7, h8, h9, h10, h11, h12, h13, h14, h15⟩ := a2
  obtain ⟨g1, g2, g3, g4, g5, g6, g7, g8, g9, g10, g11, g12, g13, g14, g15⟩ := b2
  exact ⟨h1.trans g1.symm, h2.trans g2.symm, h3.trans g3.symm, h4.trans g4.symm, h5.trans g5.symm, h6.trans g6.symm, h7.trans g7.symm, h8.trans g8.symm, h9.trans g9.symm, h10.trans g10.symm, h11.trans g11.symm, h12.trans g12.symm, h13.trans g13.symm, h14.trans g14.symm, h15.trans g15.symm⟩
theorem printA_ok {x : Ak} (h : (printA x).2 = 0) : (printA x).1 = joinT (wordsA x) ∧ sameA x (parseT (joinT (wordsA x))).1 = true := by
  unfold printA at h ⊢
  split
  · rename_i hc; exact ⟨rfl, hc.2⟩
  · rename_i hc; rw [if_neg hc] at h; exact absurd h (by decide)
theorem apart {x y : Ak} (h1 : (printA x).2 = 0) (h2 : (printA y).2 = 0) : (((printA x).1 == (printA y).1) == sameA x y) = true := by
  obtain ⟨a1, a2⟩ := printA_ok h1
  obtain ⟨b1, b2⟩ := printA_ok h2
  rw [a1, b1, beq_iff_eq, Bool.eq_iff_iff, beq_iff_eq]
  constructor
  · intro e
    rw [← e] at b2
    exact sameA_join a2 b2
  · intro h
    rw [sameA_words h]
end Go.Proofs.YtcijjgfadkflmaaDoor
end

section
namespace Go.Proofs.YtcijjgfadkflmaaDoor
open Go.AL
set_option linter.unusedSimpArgs false
set_option linter.unusedVariables false
set_option maxHeartbeats 1000000
set_option maxRecDepth 20000
theorem opr_eta0 (o : Opr) : Opr.mk o.k o.edge o.out o.id o.fr o.tw o.most (0 : Int) o.label o.key o.props o.keys (Vl.mk o.lo.k o.lo.n o.lo.s) (Vl.mk o.hi.k o.hi.n o.hi.s) o.nodes o.links = { o with steps := 0 } := rfl
theorem fit0 {o : Opr} (h : o.fit) : ({ o with steps := 0 } : Opr).fit := ⟨h.id, h.fr, h.tw, h.most, h.lo, h.hi, h.props, h.nodes, h.links⟩
theorem small_few {o : Opr} (h : smallT o = true) : o.few := by
  simp only [smallT, Bool.and_eq_true, small0, small1, decide_eq_true_eq] at h
  obtain ⟨⟨s1, s2, s3, s4, s5, s6⟩, ⟨s7, s8⟩, s9, s10, s11⟩ := h
  exact ⟨by omega, by omega, by omega, by omega⟩
theorem askApart_c (x y : Ak) (hx : x.op.fit) (hy : y.op.fit) (kx : ∀ k ∈ x.op.keys, k.length ≤ 2000000000000) (ky : ∀ k ∈ y.op.keys, k.length ≤ 2000000000000) :
    ACall Tryd.prog 3 [Ak.a x, Ak.a y] Sto.empty fun r _ => Wk r (.bool true) := by
  refine askApart_i x y _ (.of [awakeE, smallE, printSE, rsameE] rfl ⟨awake_ok, small_ok, print_ok, rsame_ok, trivial⟩) ?_
  simp only [map_prOf, map_strOf_strv, map_ndOf, map_lkOf, all4, opr_eta, opr_eta0, Bool.true_and, hold_eq]
  intro y1 e1
  refine gb_by rfl ?_
  with_reducible refine brV_by' (fun h1 => ?_) (fun h1 => ?_)
  rotate_left
  · exact .refl _
  intro y2 e2
  refine gb_by rfl ?_
  with_reducible refine brV_by (fun h2 => ?_) (fun h2 => ?_)
  · exact .refl _
  have s1 : smallT x.op = true := by rw [← e1]; simpa using h1
  have s2 : smallT y.op = true := by rw [← e2]; simpa using h2
  have t1 : smallT { x.op with steps := 0 } = true := s1
  have t2 : smallT { y.op with steps := 0 } = true := s2
  have f1 := small_few t1
  have f2 := small_few t2
  have j1 := join_small ⟨x.verb, { x.op with steps := 0 }⟩ (fit0 hx) t1 kx
  have j2 := join_small ⟨y.verb, { y.op with steps := 0 }⟩ (fit0 hy) t2 ky
  intro y3 e3
  refine gb_by (by rw [fit_mk (fit0 hx), few_mk f1, decide_eq_true j1.1, decide_eq_true j1.2]; rfl) ?_
  intro y4 e4
  refine gb_by (by rw [fit_mk (fit0 hy), few_mk f2, decide_eq_true j2.1, decide_eq_true j2.2]; rfl) ?_
  with_reducible refine brV_by' (fun h3 => ?_) (fun h3 => ?_)
  rotate_left
  · exact .refl _
  with_reducible refine brV_by' (fun h4 => ?_) (fun h4 => ?_)
  rotate_left
  · exact .refl _
  intro y5 e5
  refine gb_by (by rw [few_mk f1, few_mk f2]; rfl) ?_
  have z3 : y3.2 = 0 := by simpa using h3
  have z4 : y4.2 = 0 := by simpa using h4
  have e5 : y5 = sameA ⟨x.verb, { x.op with steps := 0 }⟩ ⟨y.verb, { y.op with steps := 0 }⟩ := e5
  rw [e3] at z3
  rw [e4] at z4
  have := apart z3 z4
  rw [← e3, ← e4, ← e5] at this
  rw [this]
  exact .refl _
end Go.Proofs.YtcijjgfadkflmaaDoor
end
