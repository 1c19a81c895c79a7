/-
  The texts So of this seat, one behind the other.
-/
import Derived.Test.YtcijjgfadkflmaaDoorZ12

section
namespace Go.Proofs.YtcijjgfadkflmaaDoor
open Go.AL
set_option linter.unusedSimpArgs false
set_option linter.unusedVariables false
set_option maxHeartbeats 2000000
set_option maxRecDepth 20000
theorem wkO {k : Int} {e o : Bool} {id fr tw most steps : Int} {label key : Txt} {lk ln : Int} {ls : Txt} {hk hn : Int} {hs : Txt} {p p' q q' n n' x x' : AVal} (h1 : Wk p p') (h2 : Wk q q') (h3 : Wk n n') (h4 : Wk x x') :
    Wk (.agg [.int .i64 k, .bool e, .bool o, .int .i64 id, .int .i64 fr, .int .i64 tw, .int .i64 most, .int .i64 steps, .str label, .str key, p, q, .int .i64 lk, .int .i64 ln, .str ls, .int .i64 hk, .int .i64 hn, .str hs, n, x])
      (.agg [.int .i64 k, .bool e, .bool o, .int .i64 id, .int .i64 fr, .int .i64 tw, .int .i64 most, .int .i64 steps, .str label, .str key, p', q', .int .i64 lk, .int .i64 ln, .str ls, .int .i64 hk, .int .i64 hn, .str hs, n', x']) :=
  Wk.agg (.cons (.refl _) (.cons (.refl _) (.cons (.refl _) (.cons (.refl _) (.cons (.refl _) (.cons (.refl _) (.cons (.refl _) (.cons (.refl _) (.cons (.refl _) (.cons (.refl _) (.cons h1 (.cons h2 (.cons (.refl _) (.cons (.refl _) (.cons (.refl _) (.cons (.refl _) (.cons (.refl _) (.cons (.refl _) (.cons h3 (.cons h4 (.refl _)))))))))))))))))))))
theorem rOp_wVertex (l : List Txt) : rOp wVertex l = (match rNumber l with
    | none => none
    | some (a, l) => (match rName l with
    | none => none
    | some (s, l) => (rProps l).map fun x => ({ k := 1, id := a, label := s, props := x.1 }, x.2))) := by
  unfold rOp; rw [if_pos rfl]; try rfl
theorem rOp_wEdge (l : List Txt) : rOp wEdge l = (match rNumber l with
    | none => none
    | some (a, l) => (match rName l with
    | none => none
    | some (s, l) => (match rNumber l with
    | none => none
    | some (b, l) => (match rNumber l with
    | none => none
    | some (c, l) => (rProps l).map fun x => ({ k := 2, id := a, label := s, fr := b, tw := c, props := x.1 }, x.2))))) := by
  unfold rOp; rw [if_neg (by decide), if_pos rfl]; try rfl
theorem rOp_wSet (l : List Txt) : rOp wSet l = (match rEdge l with
    | none => none
    | some (e, l) => (match rNumber l with
    | none => none
    | some (a, l) => (rProps l).map fun x => ({ k := 3, edge := e, id := a, props := x.1 }, x.2))) := by
  unfold rOp; rw [if_neg (by decide), if_neg (by decide), if_pos rfl]; try rfl
theorem rOp_wUnset (l : List Txt) : rOp wUnset l = (match rEdge l with
    | none => none
    | some (e, l) => (match rNumber l with
    | none => none
    | some (a, l) => (rNames l).map fun x => ({ k := 4, edge := e, id := a, keys := x.1 }, x.2))) := by
  unfold rOp; rw [if_neg (by decide), if_neg (by decide), if_neg (by decide), if_pos rfl]; try rfl
theorem rOp_wDrop (l : List Txt) : rOp wDrop l = (match rEdge l with
    | none => none
    | some (e, l) => (rNumber l).map fun x => ({ k := 5, edge := e, id := x.1 }, x.2)) := by
  unfold rOp; rw [if_neg (by decide), if_neg (by decide), if_neg (by decide), if_neg (by decide), if_pos rfl]; try rfl
theorem rOp_wGet (l : List Txt) : rOp wGet l = (match rEdge l with
    | none => none
    | some (e, l) => (rNumber l).map fun x => ({ k := 6, edge := e, id := x.1 }, x.2)) := by
  unfold rOp; rw [if_neg (by decide), if_neg (by decide), if_neg (by decide), if_neg (by decide), if_neg (by decide), if_pos rfl]; try rfl
theorem rOp_wNext (l : List Txt) : rOp wNext l = (match rNumber l with
    | none => none
    | some (a, l) => (rLabel l).map fun x => ({ k := 7, out := true, id := a, label := x.1 }, x.2)) := by
  unfold rOp; rw [if_neg (by decide), if_neg (by decide), if_neg (by decide), if_neg (by decide), if_neg (by decide), if_neg (by decide), if_pos (.inl rfl)]; try rfl
theorem rOp_wBack (l : List Txt) : rOp wBack l = (match rNumber l with
    | none => none
    | some (a, l) => (rLabel l).map fun x => ({ k := 7, out := false, id := a, label := x.1 }, x.2)) := by
  unfold rOp; rw [if_neg (by decide), if_neg (by decide), if_neg (by decide), if_neg (by decide), if_neg (by decide), if_neg (by decide), if_pos (.inr rfl)]; try rfl
theorem rOp_wFind (l : List Txt) : rOp wFind l = (rNode l).map fun x => ({ k := 8, label := x.1.label, key := x.1.key, lo := x.1.lo, hi := x.1.hi }, x.2) := by
  unfold rOp; rw [if_neg (by decide), if_neg (by decide), if_neg (by decide), if_neg (by decide), if_neg (by decide), if_neg (by decide), if_neg (by decide), if_pos rfl]; try rfl
theorem rOp_wMatch (l : List Txt) : rOp wMatch l = (match rNumber l with
    | none => none
    | some (a, l) => (rPattern l).map fun x => ({ k := 9, most := a, nodes := x.1.1, links := x.1.2 }, x.2)) := by
  unfold rOp; rw [if_neg (by decide), if_neg (by decide), if_neg (by decide), if_neg (by decide), if_neg (by decide), if_neg (by decide), if_neg (by decide), if_neg (by decide), if_pos rfl]; try rfl
theorem rOp_wPath (l : List Txt) : rOp wPath l = (match rNumber l with
    | none => none
    | some (a, l) => (match rNumber l with
    | none => none
    | some (b, l) => (match rLabel l with
    | none => none
    | some (s, l) => (rNumber l).map fun x => ({ k := 10, fr := a, tw := b, label := s, most := x.1 }, x.2)))) := by
  unfold rOp; rw [if_neg (by decide), if_neg (by decide), if_neg (by decide), if_neg (by decide), if_neg (by decide), if_neg (by decide), if_neg (by decide), if_neg (by decide), if_neg (by decide), if_pos rfl]; try rfl
def opQ (l : List Txt) (w : Txt) : AVal → Sto → Prop := fun r τ => ∃ x t, rOp w l = some (x, t) ∧ Wk r x.a ∧ ∃ y, τ.obj 0 = some (.cells y) ∧ WkL y [.slice (strv t) 1 .ro]
theorem unset_c (l : List Txt) (ho : OrcOk Tryd.prog (cOp ((rOp wUnset l).isNone = true))) (e : Bool) (a : Int) (cur0 : List Txt) (hc0 : okL cur0) (e0 : rOp wUnset l = (rNames cur0).map fun x => ({ k := 4, edge := e, id := a, keys := x.1 }, x.2)) :
    loopV (fun s => St.norm [(5, 13101)] [0, 4, 5] [4, 5] s) (vc Tryd.prog (cOp ((rOp wUnset l).isNone = true)) opL_C) (blockK 1 (blockK 0 (thenK (vc Tryd.prog (cOp ((rOp wUnset l).isNone = true)) opF_C (endK Tryd.prog Tryd.f17.results.toList (opQ l wUnset))) (endK Tryd.prog Tryd.f17.results.toList (opQ l wUnset))))) (opL_S cur0 e a []) := by
  refine loopV_intro (α := List Txt × List Txt) (fun x => opL_S x.1 e a x.2) (fun x => okL x.1 ∧ x.2.length + x.1.length ≤ 1000000 ∧ rOp wUnset l = (rNames x.1).map fun y => ({ k := 4, edge := e, id := a, keys := x.2 ++ y.1 }, y.2)) (fun x => x.1.length) ?_ (cur0, []) ⟨hc0, by have := hc0.1; simpa using this, by simpa using e0⟩
  rintro ⟨cur, ks⟩ ⟨hc, hn, he⟩ L hL
  simp only at hc hn he ⊢
  refine Eq.mpr (opL_r _ cur e a ks L _) ?_
  simp only [hold_eq]
  cases cur with
  | nil =>
    refine brF (by simp [strv]) ?_
    refine leaveK (inBlock ?_)
    refine Eq.mpr (opF_r _ [] e a ks _ _) ?_
    exact ⟨{ k := 4, edge := e, id := a, keys := ks }, [], by rw [he]; simp [rNames], wkO (Wk.nil 0 4 .nil) (Wk.ro _ _ _) (Wk.nil 0 8 .nil) (Wk.nil 0 3 .nil), _, rfl, .refl _⟩
  | cons v r =>
    refine brT (by simp [strv] <;> omega) ?_
    refine rdStep hc rName (fun h => ⟨?_, gb_by ?_ trivial⟩) (fun x t h => ?_)
    · rw [he]
      have : ¬ nameT v = true := fun e => by simp [rName, e] at h
      simp [rNames, this]
    · simp only [decide_eq_true_eq, strv_length, List.length_cons, true_and, and_true] at hn ⊢
      omega
    have hv : nameT v = true := by
      cases hv : nameT v with
      | true => rfl
      | false => simp [rName, hv] at h
    obtain ⟨rfl, rfl⟩ : v = x ∧ r = t := by
      simp only [rName, hv, if_true] at h
      cases h; exact ⟨rfl, rfl⟩
    refine gb_by ?_ ?_
    · simp only [decide_eq_true_eq, strv_length, List.length_cons, true_and, and_true] at hn ⊢
      omega
    simp only [Option.getD_some, set_setOwn, pushSet, oneSet, one_own1]
    rw [strv_snoc ks v, show (strv ks).length + 1 = (strv (ks ++ [v])).length by simp]
    exact hL (r, ks ++ [v]) ⟨hc.suf (List.suffix_cons _ _), by simp only [List.length_cons, List.length_append, List.length_nil] at hn ⊢; omega, by
      rw [he]
      simp only [rNames, hv, if_true, Option.map_map]
      congr 1
      funext x
      simp⟩ (by simp)
theorem op_c (w : Txt) : RdC 17 Opr.a [.str w] (rOp w) := by
  intro l hl
  have ho : OrcOk Tryd.prog (cOp ((rOp w l).isNone = true)) := .of [numberRE, nameE, propsE, edgeE, labelE, nodeE, patternE] rfl ⟨numberR_ok, name_ok, props_ok, edge_ok, label_ok, node_ok, pattern_ok, trivial⟩
  refine op_i _ l w _ ho ?_
  simp only [hold_eq]
  refine brV_by (fun h => ?_) (fun n0 => ?_)
  · obtain rfl : w = wVertex := eq_of_beq h
    rw [rOp_wVertex]
    refine rdStep hl rNumber (fun h0 => by simp [h0]) (fun a t0 h0 => ?_)
    have l0 := hl.suf ((rNumber_cut _ _ _ h0).1)
    simp only [Option.getD_some]
    refine rdStep l0 rName (fun h1 => by simp [h0, h1]) (fun s t1 h1 => ?_)
    have l1 := l0.suf ((rName_cut _ _ _ h1).1)
    simp only [Option.getD_some]
    refine rdStep l1 rProps (fun h2 => by simp [h0, h1, h2]) (fun ps t2 h2 => ?_)
    have l2 := l1.suf (rProps_suf _ _ _ h2)
    simp only [Option.getD_some]
    exact ⟨{ k := 1, id := a, label := s, props := ps }, t2, by simp [h0, h1, h2], wkO (Wk.refl _) (Wk.nil 0 1 .nil) (Wk.nil 0 8 .nil) (Wk.nil 0 3 .nil), _, rfl, .refl _⟩
  refine brV_by (fun h => ?_) (fun n1 => ?_)
  · obtain rfl : w = wEdge := eq_of_beq h
    rw [rOp_wEdge]
    refine rdStep hl rNumber (fun h0 => by simp [h0]) (fun a t0 h0 => ?_)
    have l0 := hl.suf ((rNumber_cut _ _ _ h0).1)
    simp only [Option.getD_some]
    refine rdStep l0 rName (fun h1 => by simp [h0, h1]) (fun s t1 h1 => ?_)
    have l1 := l0.suf ((rName_cut _ _ _ h1).1)
    simp only [Option.getD_some]
    refine rdStep l1 rNumber (fun h2 => by simp [h0, h1, h2]) (fun b t2 h2 => ?_)
    have l2 := l1.suf ((rNumber_cut _ _ _ h2).1)
    simp only [Option.getD_some]
    refine rdStep l2 rNumber (fun h3 => by simp [h0, h1, h2, h3]) (fun c t3 h3 => ?_)
    have l3 := l2.suf ((rNumber_cut _ _ _ h3).1)
    simp only [Option.getD_some]
    refine rdStep l3 rProps (fun h4 => by simp [h0, h1, h2, h3, h4]) (fun ps t4 h4 => ?_)
    have l4 := l3.suf (rProps_suf _ _ _ h4)
    simp only [Option.getD_some]
    exact ⟨{ k := 2, id := a, label := s, fr := b, tw := c, props := ps }, t4, by simp [h0, h1, h2, h3, h4], wkO (Wk.refl _) (Wk.nil 0 1 .nil) (Wk.nil 0 8 .nil) (Wk.nil 0 3 .nil), _, rfl, .refl _⟩
  refine brV_by (fun h => ?_) (fun n2 => ?_)
  · obtain rfl : w = wSet := eq_of_beq h
    rw [rOp_wSet]
    refine rdStep hl rEdge (fun h0 => by simp [h0]) (fun e t0 h0 => ?_)
    have l0 := hl.suf ((rEdge_cut _ _ _ h0).1)
    simp only [Option.getD_some]
    refine rdStep l0 rNumber (fun h1 => by simp [h0, h1]) (fun a t1 h1 => ?_)
    have l1 := l0.suf ((rNumber_cut _ _ _ h1).1)
    simp only [Option.getD_some]
    refine rdStep l1 rProps (fun h2 => by simp [h0, h1, h2]) (fun ps t2 h2 => ?_)
    have l2 := l1.suf (rProps_suf _ _ _ h2)
    simp only [Option.getD_some]
    exact ⟨{ k := 3, edge := e, id := a, props := ps }, t2, by simp [h0, h1, h2], wkO (Wk.refl _) (Wk.nil 0 1 .nil) (Wk.nil 0 8 .nil) (Wk.nil 0 3 .nil), _, rfl, .refl _⟩
  refine brV_by (fun h => ?_) (fun n3 => ?_)
  · obtain rfl : w = wUnset := eq_of_beq h
    refine rdStep hl rEdge (fun h0 => by simp [rOp_wUnset, h0]) (fun e t0 h0 => ?_)
    have l0 := hl.suf ((rEdge_cut _ _ _ h0).1)
    simp only [Option.getD_some]
    refine rdStep l0 rNumber (fun h1 => by simp [rOp_wUnset, h0, h1]) (fun a t1 h1 => ?_)
    have l1 := l0.suf ((rNumber_cut _ _ _ h1).1)
    simp only [Option.getD_some]
    simp only [oneSet]
    exact unset_c l ho e a t1 l1 (by simp [rOp_wUnset, h0, h1])
  refine brV_by (fun h => ?_) (fun n4 => ?_)
  · obtain rfl : w = wDrop := eq_of_beq h
    rw [rOp_wDrop]
    refine rdStep hl rEdge (fun h0 => by simp [h0]) (fun e t0 h0 => ?_)
    have l0 := hl.suf ((rEdge_cut _ _ _ h0).1)
    simp only [Option.getD_some]
    refine rdStep l0 rNumber (fun h1 => by simp [h0, h1]) (fun a t1 h1 => ?_)
    have l1 := l0.suf ((rNumber_cut _ _ _ h1).1)
    simp only [Option.getD_some]
    exact ⟨{ k := 5, edge := e, id := a }, t1, by simp [h0, h1], wkO (Wk.nil 0 4 .nil) (Wk.nil 0 1 .nil) (Wk.nil 0 8 .nil) (Wk.nil 0 3 .nil), _, rfl, .refl _⟩
  refine brV_by (fun h => ?_) (fun n5 => ?_)
  · obtain rfl : w = wGet := eq_of_beq h
    rw [rOp_wGet]
    refine rdStep hl rEdge (fun h0 => by simp [h0]) (fun e t0 h0 => ?_)
    have l0 := hl.suf ((rEdge_cut _ _ _ h0).1)
    simp only [Option.getD_some]
    refine rdStep l0 rNumber (fun h1 => by simp [h0, h1]) (fun a t1 h1 => ?_)
    have l1 := l0.suf ((rNumber_cut _ _ _ h1).1)
    simp only [Option.getD_some]
    exact ⟨{ k := 6, edge := e, id := a }, t1, by simp [h0, h1], wkO (Wk.nil 0 4 .nil) (Wk.nil 0 1 .nil) (Wk.nil 0 8 .nil) (Wk.nil 0 3 .nil), _, rfl, .refl _⟩
  refine brV_by (fun h => brT h ?_) (fun n6 => ?_)
  · have hh := h
    simp only [h]
    obtain rfl : w = wNext := eq_of_beq h
    rw [rOp_wNext]
    refine rdStep hl rNumber (fun h0 => by simp [h0]) (fun a t0 h0 => ?_)
    have l0 := hl.suf ((rNumber_cut _ _ _ h0).1)
    simp only [Option.getD_some]
    refine rdStep l0 rLabel (fun h1 => by simp [h0, h1]) (fun s t1 h1 => ?_)
    have l1 := l0.suf ((rLabel_cut _ _ _ h1).1)
    simp only [Option.getD_some]
    exact ⟨{ k := 7, out := true, id := a, label := s }, t1, by simp [h0, h1], wkO (Wk.nil 0 4 .nil) (Wk.nil 0 1 .nil) (Wk.nil 0 8 .nil) (Wk.nil 0 3 .nil), _, rfl, .refl _⟩
  refine brV_by (fun h => ?_) (fun n7 => ?_)
  · simp only [n6]
    obtain rfl : w = wBack := eq_of_beq h
    rw [rOp_wBack]
    refine rdStep hl rNumber (fun h0 => by simp [h0]) (fun a t0 h0 => ?_)
    have l0 := hl.suf ((rNumber_cut _ _ _ h0).1)
    simp only [Option.getD_some]
    refine rdStep l0 rLabel (fun h1 => by simp [h0, h1]) (fun s t1 h1 => ?_)
    have l1 := l0.suf ((rLabel_cut _ _ _ h1).1)
    simp only [Option.getD_some]
    exact ⟨{ k := 7, out := false, id := a, label := s }, t1, by simp [h0, h1], wkO (Wk.nil 0 4 .nil) (Wk.nil 0 1 .nil) (Wk.nil 0 8 .nil) (Wk.nil 0 3 .nil), _, rfl, .refl _⟩
  refine brV_by (fun h => ?_) (fun n8 => ?_)
  · obtain rfl : w = wFind := eq_of_beq h
    rw [rOp_wFind]
    refine rdStep hl rNode (fun h0 => by simp [h0]) (fun n t0 h0 => ?_)
    have l0 := hl.suf ((rNode_cut _ _ _ h0).1)
    simp only [Option.getD_some]
    exact ⟨{ k := 8, label := n.label, key := n.key, lo := n.lo, hi := n.hi }, t0, by simp [h0], wkO (Wk.nil 0 4 .nil) (Wk.nil 0 1 .nil) (Wk.nil 0 8 .nil) (Wk.nil 0 3 .nil), _, rfl, .refl _⟩
  refine brV_by (fun h => ?_) (fun n9 => ?_)
  · obtain rfl : w = wMatch := eq_of_beq h
    rw [rOp_wMatch]
    refine rdStep hl rNumber (fun h0 => by simp [h0]) (fun a t0 h0 => ?_)
    have l0 := hl.suf ((rNumber_cut _ _ _ h0).1)
    simp only [Option.getD_some]
    refine rdStep l0 rPattern (fun h1 => by simp [h0, h1]) (fun p t1 h1 => ?_)
    have l1 := l0.suf (rPattern_suf _ _ _ h1)
    simp only [Option.getD_some]
    exact ⟨{ k := 9, most := a, nodes := p.1, links := p.2 }, t1, by simp [h0, h1], wkO (Wk.nil 0 4 .nil) (Wk.nil 0 1 .nil) (Wk.refl _) (Wk.refl _), _, rfl, .refl _⟩
  refine brV_by (fun h => ?_) (fun n10 => ?_)
  · obtain rfl : w = wPath := eq_of_beq h
    rw [rOp_wPath]
    refine rdStep hl rNumber (fun h0 => by simp [h0]) (fun a t0 h0 => ?_)
    have l0 := hl.suf ((rNumber_cut _ _ _ h0).1)
    simp only [Option.getD_some]
    refine rdStep l0 rNumber (fun h1 => by simp [h0, h1]) (fun b t1 h1 => ?_)
    have l1 := l0.suf ((rNumber_cut _ _ _ h1).1)
    simp only [Option.getD_some]
    refine rdStep l1 rLabel (fun h2 => by simp [h0, h1, h2]) (fun s t2 h2 => ?_)
    have l2 := l1.suf ((rLabel_cut _ _ _ h2).1)
    simp only [Option.getD_some]
    refine rdStep l2 rNumber (fun h3 => by simp [h0, h1, h2, h3]) (fun c t3 h3 => ?_)
    have l3 := l2.suf ((rNumber_cut _ _ _ h3).1)
    simp only [Option.getD_some]
    exact ⟨{ k := 10, fr := a, tw := b, label := s, most := c }, t3, by simp [h0, h1, h2, h3], wkO (Wk.nil 0 4 .nil) (Wk.nil 0 1 .nil) (Wk.nil 0 8 .nil) (Wk.nil 0 3 .nil), _, rfl, .refl _⟩
  show (rOp w l).isNone = true
  have ne : ∀ c : Txt, (w == c) = false → ¬ w = c := fun c h e => by rw [e] at h; simp at h
  unfold rOp
  rw [if_neg (ne wVertex n0), if_neg (ne wEdge n1), if_neg (ne wSet n2), if_neg (ne wUnset n3), if_neg (ne wDrop n4), if_neg (ne wGet n5), if_neg (fun e => e.elim (ne wNext n6) (ne wBack n7)), if_neg (ne wFind n8), if_neg (ne wMatch n9), if_neg (ne wPath n10)]
  rfl
end Go.Proofs.YtcijjgfadkflmaaDoor
end
