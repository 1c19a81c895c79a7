/-
  The texts A15, G, H, A16, A17, Hm, Hc, A18, A21, A22 of this seat, one behind the other.
-/
import Derived.Test.YtcijjgfadkflmaaDoorZ3
import Derived.Laws.BitsAllLaws

section
namespace Go.AL
set_option linter.unusedSimpArgs false
set_option linter.unusedVariables false

theorem blt_iff {a b : Nat} : Nat.blt a b = true ↔ a < b := by rw [Nat.blt_eq]

def Tag.sealT (m : Nat) : Tag → Tag
  | .own p => match Nat.blt p m with | true => .own p | false => .ro
  | t => t

def Tag.below (m : Nat) : Tag → Bool
  | .own p => Nat.blt p m
  | _ => true

def Oid.below (n : Nat) : Oid → Bool
  | .loc _ => true
  | .out k => Nat.blt k n

mutual
def AVal.sealT (m : Nat) : AVal → AVal
  | .agg cs => .agg (sealL m cs)
  | .tuple vs => .tuple (sealL m vs)
  | .slice es s t => .slice (sealL m es) s (t.sealT m)
  | .iptr cs => .iptr (sealL m cs)
  | .func fn f c => .func fn (sealL m f) (sealL m c)
  | .iface t v => .iface t (v.sealT m)
  | v => v
def sealL (m : Nat) : List AVal → List AVal
  | [] => []
  | a :: as => a.sealT m :: sealL m as
end

mutual
def AVal.noOut (n : Nat) : AVal → Bool
  | .agg cs => noOutL n cs
  | .tuple vs => noOutL n vs
  | .slice es _ _ => noOutL n es
  | .iptr cs => noOutL n cs
  | .arr o _ _ _ => o.below n
  | .mrow k _ => Nat.blt (k + 1) n
  | .ptr o _ => o.below n
  | .map o => o.below n
  | .func _ f c => noOutL n f && noOutL n c
  | .iface _ v => v.noOut n
  | _ => true
def noOutL (n : Nat) : List AVal → Bool
  | [] => true
  | a :: as => a.noOut n && noOutL n as
end

mutual
def AVal.noTok (m : Nat) : AVal → Bool
  | .agg cs => noTokL m cs
  | .tuple vs => noTokL m vs
  | .slice es _ t => t.below m && noTokL m es
  | .iptr cs => noTokL m cs
  | .func _ f c => noTokL m f && noTokL m c
  | .iface _ v => v.noTok m
  | _ => true
def noTokL (m : Nat) : List AVal → Bool
  | [] => true
  | a :: as => a.noTok m && noTokL m as
end

def AObj.old (n m : Nat) : AObj → Bool
  | .cells cs => noOutL n cs && noTokL m cs
  | .map es => es.all fun x => (x.1.noOut n && x.2.noOut n) && (x.1.noTok m && x.2.noTok m)
  | .siter _ _ => true
  | .buf es _ g => (noOutL n es && noTokL m es) && Nat.blt g n

theorem noOutL_append (n : Nat) : ∀ (as bs : List AVal), noOutL n (as ++ bs) = (noOutL n as && noOutL n bs)
  | [], _ => by simp [noOutL]
  | a :: as, bs => by simp [noOutL, noOutL_append n as bs, Bool.and_assoc]
theorem noTokL_append (n : Nat) : ∀ (as bs : List AVal), noTokL n (as ++ bs) = (noTokL n as && noTokL n bs)
  | [], _ => by simp [noTokL]
  | a :: as, bs => by simp [noTokL, noTokL_append n as bs, Bool.and_assoc]
theorem sealL_append (n : Nat) : ∀ (as bs : List AVal), sealL n (as ++ bs) = sealL n as ++ sealL n bs
  | [], _ => by simp [sealL]
  | a :: as, bs => by simp [sealL, sealL_append n as bs]

theorem noOut_cells (n : Nat) (a : AVal) : noOutL n a.cells = a.noOut n := by cases a <;> simp [AVal.cells, noOutL, AVal.noOut]
theorem noTok_cells (n : Nat) (a : AVal) : noTokL n a.cells = a.noTok n := by cases a <;> simp [AVal.cells, noTokL, AVal.noTok]
theorem seal_cells (n : Nat) (a : AVal) : sealL n a.cells = (a.sealT n).cells := by cases a <;> simp [AVal.cells, sealL, AVal.sealT]

theorem noOut_flat (n : Nat) : ∀ es : List AVal, noOutL n (flat es) = noOutL n es
  | [] => rfl
  | a :: es => by
    have := noOut_flat n es
    simp only [flat, List.flatMap_cons] at this ⊢
    rw [noOutL_append, noOut_cells, this]
    rfl
theorem noTok_flat (n : Nat) : ∀ es : List AVal, noTokL n (flat es) = noTokL n es
  | [] => rfl
  | a :: es => by
    have := noTok_flat n es
    simp only [flat, List.flatMap_cons] at this ⊢
    rw [noTokL_append, noTok_cells, this]
    rfl
theorem seal_flat (n : Nat) : ∀ es : List AVal, sealL n (flat es) = flat (sealL n es)
  | [] => rfl
  | a :: es => by
    have := seal_flat n es
    simp only [flat, List.flatMap_cons, sealL] at this ⊢
    rw [sealL_append, seal_cells, this]
theorem sealL_length (n : Nat) : ∀ es : List AVal, (sealL n es).length = es.length
  | [] => rfl
  | a :: es => by simp [sealL, sealL_length n es]
theorem sealL_mem (n : Nat) : ∀ {es : List AVal} {x : AVal}, x ∈ sealL n es → ∃ y ∈ es, x = y.sealT n
  | a :: es, x, h => by
    simp only [sealL, List.mem_cons] at h
    rcases h with rfl | h
    · exact ⟨a, by simp, rfl⟩
    · obtain ⟨y, hy, e⟩ := sealL_mem n h; exact ⟨y, by simp [hy], e⟩

def Gh.cut (γ : Gh) (n m : Nat) : Gh :=
  { imm := γ.imm, obj := fun i => match i.below n with | true => γ.obj i | false => none, own := fun p => match Nat.blt p m with | true => γ.own p | false => .free }

theorem cut_obj {γ : Gh} {n m : Nat} {i : Oid} (h : i.below n = true) : (γ.cut n m).obj i = γ.obj i := by simp [Gh.cut, h]
theorem cut_own {γ : Gh} {n m p : Nat} (h : Nat.blt p m = true) : (γ.cut n m).own p = γ.own p := by simp [Gh.cut, h]

theorem tagRow_seal {γ : Gh} {n m : Nat} {t : Tag} {k b off cap s : Nat} (h : tagRow γ t k b off cap s) : tagRow (γ.cut n m) (t.sealT m) k b off cap s := by
  cases t with
  | own p =>
    simp only [Tag.sealT]
    cases hp : Nat.blt p m with
    | true => simp only [tagRow] at h ⊢; rw [cut_own hp]; exact h
    | false => trivial
  | _ => exact h
theorem tagNil_seal {γ : Gh} {n m : Nat} {t : Tag} (h : tagNil γ t) : tagNil (γ.cut n m) (t.sealT m) := by
  cases t with
  | own p =>
    simp only [Tag.sealT]
    cases hp : Nat.blt p m with
    | true => simp only [tagNil] at h ⊢; rw [cut_own hp]; exact h
    | false => trivial
  | _ => exact h
theorem seal_isNil (m : Nat) (t : Tag) : (t.sealT m).isNil = t.isNil := by
  cases t with
  | own p => simp only [Tag.sealT]; cases Nat.blt p m <;> rfl
  | _ => rfl

mutual
theorem Rep.cut {γ : Gh} {w : World} {n m : Nat} : ∀ {l : Bool} {a : AVal} {v : Value}, Rep γ w l a v → (a.sealT m).noOut n = true → Rep (γ.cut n m) w l (a.sealT m) v
  | _, _, _, .undef l v, _ => .undef l v
  | _, _, _, .bool l b, _ => .bool l b
  | _, _, _, .int l k n, _ => .int l k n
  | _, _, _, .str l s, _ => .str l s
  | _, _, _, .agg h h1, e => .agg (RepL.cut h (by simpa [AVal.noOut, AVal.sealT] using e)) h1
  | _, _, _, .tuple h, e => .tuple (RepL.cut h (by simpa [AVal.noOut, AVal.sealT] using e))
  | l, _, _, .sliceRow (es := es) (s := s) (tag := tag) (b := b) (off := off) (cap := cap) h hs hc h1 hn hm ht, e => by
    have e' : noOutL n (sealL m es) = true := by simpa [AVal.noOut, AVal.sealT] using e
    have := Rep.sliceRow (γ := γ.cut n m) (w := w) (l := l) (es := sealL m es) (s := s) (tag := tag.sealT m) (b := b) (off := off) (cap := cap) (by rw [← seal_flat]; exact RepL.cut h (by rw [seal_flat, noOut_flat]; exact e'))
      (fun x hx => by obtain ⟨y, hy, rfl⟩ := sealL_mem m hx; rw [← seal_cells, sealL_length]; exact hs y hy) hc h1 (by rw [sealL_length]; exact hn) hm (by rw [sealL_length]; exact tagRow_seal ht)
    rw [sealL_length] at this
    exact this
  | _, _, _, .sliceNil ht ho, _ => .sliceNil (tagNil_seal ht) (by rw [seal_isNil]; exact ho)
  | _, _, _, .arr hb ho hn h0, e => .arr (by rw [cut_obj (by simpa [AVal.noOut, AVal.sealT] using e)]; exact hb) ho hn h0
  | _, _, _, .mrow (k := k) hc hn hb, e => by
    have e1 : Nat.blt (k + 1) n = true := by simpa [AVal.noOut, AVal.sealT] using e
    have e2 : Nat.blt k n = true := by rw [blt_iff] at e1 ⊢; omega
    exact .mrow (by rw [cut_obj (by simpa [Oid.below] using e1)]; exact hc) hn (fun h => by
      obtain ⟨b, h1, h2⟩ := hb h
      exact ⟨b, h1, by rw [cut_obj (by simpa [Oid.below] using e2)]; exact h2⟩)
  | _, _, _, .iptr h h1 hc, e => .iptr (RepL.cut h (by simpa [AVal.noOut, AVal.sealT] using e)) h1 hc
  | _, _, _, .ptr hb ho, e => .ptr (by rw [cut_obj (by simpa [AVal.noOut, AVal.sealT] using e)]; exact hb) ho
  | _, _, _, .nilptr l, _ => .nilptr l
  | _, _, _, .map hb ho, e => .map (by rw [cut_obj (by simpa [AVal.noOut, AVal.sealT] using e)]; exact hb) ho
  | _, _, _, .nilmap l, _ => .nilmap l
  | _, _, _, .func hf hc, e => by
    simp only [AVal.noOut, AVal.sealT, Bool.and_eq_true] at e
    exact .func (RepL.cut hf e.1) (RepL.cut hc e.2)
  | _, _, _, .nilfunc l, _ => .nilfunc l
  | _, _, _, .iface h, e => .iface (Rep.cut h (by simpa [AVal.noOut, AVal.sealT] using e))
  | _, _, _, .nilIface l, _ => .nilIface l
theorem RepL.cut {γ : Gh} {w : World} {n m : Nat} : ∀ {l : Bool} {as : List AVal} {vs : List Value}, RepL γ w l as vs → noOutL n (sealL m as) = true → RepL (γ.cut n m) w l (sealL m as) vs
  | _, _, _, .nil l, _ => .nil l
  | _, _, _, .cons h t, e => by
    simp only [sealL, noOutL, Bool.and_eq_true] at e
    exact .cons (Rep.cut h e.1) (RepL.cut t e.2)
end

mutual
theorem seal_noTok {m : Nat} : ∀ a : AVal, a.noTok m = true → a.sealT m = a
  | .agg cs, h => by simp only [AVal.sealT]; rw [sealL_noTok cs (by simpa [AVal.noTok] using h)]
  | .tuple cs, h => by simp only [AVal.sealT]; rw [sealL_noTok cs (by simpa [AVal.noTok] using h)]
  | .slice es s t, h => by
    simp only [AVal.noTok, Bool.and_eq_true] at h
    simp only [AVal.sealT]
    rw [sealL_noTok es h.2]
    cases t with
    | own p => simp only [Tag.below] at h; simp [Tag.sealT, h.1]
    | _ => rfl
  | .iptr cs, h => by simp only [AVal.sealT]; rw [sealL_noTok cs (by simpa [AVal.noTok] using h)]
  | .func fn f c, h => by
    simp only [AVal.noTok, Bool.and_eq_true] at h
    simp only [AVal.sealT]
    rw [sealL_noTok f h.1, sealL_noTok c h.2]
  | .iface t v, h => by simp only [AVal.sealT]; rw [seal_noTok v (by simpa [AVal.noTok] using h)]
  | .undef, _ => rfl
  | .bool _, _ => rfl
  | .int _ _, _ => rfl
  | .str _, _ => rfl
  | .arr _ _ _ _, _ => rfl
  | .mrow _ _, _ => rfl
  | .ptr _ _, _ => rfl
  | .nilptr, _ => rfl
  | .map _, _ => rfl
  | .nilmap, _ => rfl
  | .nilfunc, _ => rfl
  | .nilIface, _ => rfl
theorem sealL_noTok {m : Nat} : ∀ as : List AVal, noTokL m as = true → sealL m as = as
  | [], _ => rfl
  | a :: as, h => by
    simp only [noTokL, Bool.and_eq_true] at h
    simp only [sealL]
    rw [seal_noTok a h.1, sealL_noTok as h.2]
end

theorem below_of {γ : Gh} {n : Nat} (hO : ∀ k, n ≤ k → γ.obj (.out k) = none) {o : Oid} {b : Nat} (h : γ.obj o = some b) : o.below n = true := by
  cases o with
  | loc k => rfl
  | out k =>
    simp only [Oid.below]
    rcases Nat.lt_or_ge k n with hk | hk
    · exact blt_iff.2 hk
    · rw [hO k hk] at h; cases h

mutual
theorem Rep.old {γ : Gh} {w : World} {n m : Nat} (hO : ∀ k, n ≤ k → γ.obj (.out k) = none) (hW : ∀ p, m ≤ p → γ.own p = .free) : ∀ {l : Bool} {a : AVal} {v : Value}, Rep γ w l a v → a.noOut n = true ∧ a.noTok m = true
  | _, _, _, .undef l v => ⟨rfl, rfl⟩
  | _, _, _, .bool l b => ⟨rfl, rfl⟩
  | _, _, _, .int l k n => ⟨rfl, rfl⟩
  | _, _, _, .str l s => ⟨rfl, rfl⟩
  | _, _, _, .agg h h1 => by simpa [AVal.noOut, AVal.noTok] using RepL.old hO hW h
  | _, _, _, .tuple h => by simpa [AVal.noOut, AVal.noTok] using RepL.old hO hW h
  | _, _, _, .sliceRow (es := es) (tag := tag) h hs hc h1 hn hm ht => by
    have := RepL.old hO hW h
    rw [noOut_flat, noTok_flat] at this
    simp only [AVal.noOut, AVal.noTok, Bool.and_eq_true]
    refine ⟨this.1, ?_, this.2⟩
    cases tag with
    | own p =>
      simp only [Tag.below]
      rcases Nat.lt_or_ge p m with hp | hp
      · exact blt_iff.2 hp
      · simp only [tagRow, hW p hp] at ht; exact ht.elim
    | _ => rfl
  | _, _, _, .sliceNil (tag := tag) ht ho => by
    simp only [AVal.noOut, AVal.noTok, noOutL, noTokL, Bool.and_true, true_and]
    cases tag with
    | own p =>
      simp only [Tag.below]
      rcases Nat.lt_or_ge p m with hp | hp
      · exact blt_iff.2 hp
      · simp only [tagNil, hW p hp] at ht; exact ht.elim
    | _ => rfl
  | _, _, _, .arr hb ho hn h0 => ⟨below_of hO hb, rfl⟩
  | _, _, _, .mrow hc hn hb => ⟨by have := below_of hO hc; simpa [AVal.noOut, Oid.below] using this, rfl⟩
  | _, _, _, .iptr h h1 hc => by simpa [AVal.noOut, AVal.noTok] using RepL.old hO hW h
  | _, _, _, .ptr hb ho => ⟨below_of hO hb, rfl⟩
  | _, _, _, .nilptr l => ⟨rfl, rfl⟩
  | _, _, _, .map hb ho => ⟨below_of hO hb, rfl⟩
  | _, _, _, .nilmap l => ⟨rfl, rfl⟩
  | _, _, _, .func hf hc => by
    have h1 := RepL.old hO hW hf
    have h2 := RepL.old hO hW hc
    simp [AVal.noOut, AVal.noTok, h1, h2]
  | _, _, _, .nilfunc l => ⟨rfl, rfl⟩
  | _, _, _, .iface h => by simpa [AVal.noOut, AVal.noTok] using Rep.old hO hW h
  | _, _, _, .nilIface l => ⟨rfl, rfl⟩
theorem RepL.old {γ : Gh} {w : World} {n m : Nat} (hO : ∀ k, n ≤ k → γ.obj (.out k) = none) (hW : ∀ p, m ≤ p → γ.own p = .free) : ∀ {l : Bool} {as : List AVal} {vs : List Value}, RepL γ w l as vs → noOutL n as = true ∧ noTokL m as = true
  | _, _, _, .nil l => ⟨rfl, rfl⟩
  | _, _, _, .cons h t => by
    have h1 := Rep.old hO hW h
    have h2 := RepL.old hO hW t
    simp [noOutL, noTokL, h1, h2]
end

theorem objOk.old {γ : Gh} {w : World} {n m : Nat} (hO : ∀ k, n ≤ k → γ.obj (.out k) = none) (hW : ∀ p, m ≤ p → γ.own p = .free) {l : Bool} {b : Nat} {x : AObj} (h : objOk γ w l b x) : x.old n m = true := by
  cases x with
  | cells cs =>
    obtain ⟨vs, T, _, h2, _⟩ := h
    have := RepL.old hO hW h2
    simp [AObj.old, this]
  | map es =>
    obtain ⟨ents, c, _, h2, _⟩ := h
    simp only [AObj.old, List.all_eq_true, Bool.and_eq_true]
    intro y hy
    obtain ⟨i, hi⟩ := List.getElem?_of_mem hy
    have hlt : i < ents.toList.length := by rw [← h2.1]; exact (List.getElem?_eq_some_iff.1 hi).1
    have := h2.2 i y _ hi (List.getElem?_eq_getElem hlt)
    have k1 := Rep.old hO hW this.1
    have k2 := Rep.old hO hW this.2
    exact ⟨⟨k1.1, k2.1⟩, k1.2, k2.2⟩
  | siter s pos => rfl
  | buf es s g =>
    obtain ⟨vs, junk, T, cap, _, h2, _, _, h5, _⟩ := h
    have := RepL.old hO hW h2
    rw [noOut_flat, noTok_flat] at this
    have hg := below_of hO h5
    simp only [Oid.below] at hg
    simp [AObj.old, this, hg]

theorem objOk.cut {γ : Gh} {w : World} {n m : Nat} {l : Bool} {b : Nat} {x : AObj} (h : objOk γ w l b x) (ho : x.old n m = true) : objOk (γ.cut n m) w l b x := by
  cases x with
  | cells cs =>
    obtain ⟨vs, T, h1, h2, h3, h4⟩ := h
    simp only [AObj.old, Bool.and_eq_true] at ho
    have e := sealL_noTok cs ho.2
    have := RepL.cut (n := n) (m := m) h2 (by rw [e]; exact ho.1)
    rw [e] at this
    exact ⟨vs, T, h1, this, h3, h4⟩
  | map es =>
    obtain ⟨ents, c, h1, h2, h3, h4, h5⟩ := h
    simp only [AObj.old, List.all_eq_true, Bool.and_eq_true] at ho
    refine ⟨ents, c, h1, ⟨h2.1, fun i a e ha he => ?_⟩, h3, h4, h5⟩
    obtain ⟨⟨k1, k2⟩, k3, k4⟩ := ho a (List.mem_of_getElem? ha)
    obtain ⟨g1, g2⟩ := h2.2 i a e ha he
    have e1 := seal_noTok a.1 k3
    have e2 := seal_noTok a.2 k4
    have r1 := Rep.cut (n := n) (m := m) g1 (by rw [e1]; exact k1)
    have r2 := Rep.cut (n := n) (m := m) g2 (by rw [e2]; exact k2)
    rw [e1] at r1
    rw [e2] at r2
    exact ⟨r1, r2⟩
  | siter s pos => exact h
  | buf es s g =>
    obtain ⟨vs, junk, T, cap, h1, h2, h3, h4, h5, h6, h7, h8, h9⟩ := h
    simp only [AObj.old, Bool.and_eq_true] at ho
    have e := sealL_noTok (flat es) (by rw [noTok_flat]; exact ho.1.2)
    have := RepL.cut (n := n) (m := m) h2 (by rw [e, noOut_flat]; exact ho.1.1)
    rw [e] at this
    exact ⟨vs, junk, T, cap, h1, this, h3, h4, by rw [cut_obj (by simpa [Oid.below] using ho.2)]; exact h5, h6, h7, h8, h9⟩

def Sto.cut (σ : Sto) (n m : Nat) : Sto :=
  { nobj := n, obj := fun i => if i < n then σ.obj i else none, nown := m, own := fun p => if p < m then σ.own p else none }

theorem ACall.gc {P : Program} {f : FuncId} {args : List AVal} {σ : Sto} {Q : AVal → Sto → Prop} (h : ACall P f args σ Q) (n m : Nat) (hn : σ.nobj ≤ n) (hm : σ.nown ≤ m)
    (hQ : ∀ r τ, Q r τ → (r.sealT m).noOut n = true ∧ ∀ i x, i < n → τ.obj i = some x → (i < σ.nobj ∧ σ.obj i = some x) ∨ x.old n m = true) :
    ACall P f args σ fun r τ => ∃ r0 τ0, Q r0 τ0 ∧ r = r0.sealT m ∧ τ = τ0.cut n m := by
  intro γ w vs hi hr
  refine (h γ w vs hi hr).mono fun e w' ⟨v, r, γ', σ', he, hrep, hinv, hev, hq⟩ => ?_
  obtain ⟨hout, hobj⟩ := hQ r σ' hq
  have hO : ∀ i x, (σ'.cut n m).O i = some x → σ'.O i = some x ∧ i.below n = true := by
    intro i x hx
    cases i with
    | loc k => cases hx
    | out k =>
      simp only [Sto.O, Sto.cut] at hx
      split at hx
      · rename_i hk; exact ⟨hx, blt_iff.2 hk⟩
      · cases hx
  have hW : ∀ p k, (σ'.cut n m).own p = some k → σ'.own p = some k ∧ Nat.blt p m = true := by
    intro p k hx
    simp only [Sto.cut] at hx
    split at hx
    · rename_i hk; exact ⟨hx, blt_iff.2 hk⟩
    · cases hx
  refine ⟨v, r.sealT m, γ'.cut n m, σ'.cut n m, he, Rep.cut hrep hout, ?_, ?_, r, σ', hq, rfl, rfl⟩
  · refine ⟨hinv.imm, fun i x hx => ?_, fun i j x y b hx hy hbi hbj => ?_, fun p k hp => ?_, fun p q a b c hp hq' hbp hbq => ?_, fun i x p k b hx hp hbi hbp => ?_, fun k hk => ?_, fun p hp => ?_, hinv.amb⟩
    · obtain ⟨h1, h2⟩ := hO i x hx
      have hold : x.old n m = true := by
        cases i with
        | loc k => cases h1
        | out k =>
          rcases hobj k x (blt_iff.1 h2) h1 with ⟨h3, h4⟩ | h3
          · rcases hi.obj (.out k) x h4 with ⟨j, s, g1, g2, g3, g4⟩ | ⟨b0, _, hok0⟩
            · subst g2
              have := below_of (n := n) (fun q hq => hi.freshO q (by omega)) g4
              simpa [AObj.old, noOutL, noTokL, Oid.below] using this
            · exact hok0.old (fun q hq => hi.freshO q (by omega)) (fun q hq => hi.freshW q (by omega))
          · exact h3
      rcases hinv.obj i x h1 with ⟨j, s, g1, g2, g3, g4⟩ | ⟨b, hb, hok⟩
      · subst g1; subst g2
        simp only [AObj.old, Bool.and_eq_true] at hold
        exact .inl ⟨j, s, rfl, rfl, by rw [cut_obj h2]; exact g3, by rw [cut_obj (by simpa [Oid.below] using hold.2)]; exact g4⟩
      · exact .inr ⟨b, by rw [cut_obj h2]; exact hb, hok.cut hold⟩
    · obtain ⟨h1, h2⟩ := hO i x hx
      obtain ⟨h3, h4⟩ := hO j y hy
      rw [cut_obj h2] at hbi
      rw [cut_obj h4] at hbj
      exact hinv.inj i j x y b h1 h3 hbi hbj
    · obtain ⟨h1, h2⟩ := hW p k hp
      rw [cut_own h2]
      exact (hinv.own p k h1).mono (fun _ _ => rfl) (fun _ _ _ h => h)
    · obtain ⟨h1, h2⟩ := hW p a hp
      obtain ⟨h3, h4⟩ := hW q b hq'
      rw [cut_own h2] at hbp
      rw [cut_own h4] at hbq
      exact hinv.ownInj p q a b c h1 h3 hbp hbq
    · obtain ⟨h1, h2⟩ := hO i x hx
      obtain ⟨h3, h4⟩ := hW p k hp
      rw [cut_obj h2] at hbi
      rw [cut_own h4] at hbp
      exact hinv.apart i x p k b h1 h3 hbi hbp
    · have hk : n ≤ k := hk
      have : Nat.blt k n = false := by
        cases hb : Nat.blt k n with
        | true => have := blt_iff.1 hb; omega
        | false => rfl
      simp [Gh.cut, Oid.below, this]
    · have hk : m ≤ p := hp
      have : Nat.blt p m = false := by
        cases hb : Nat.blt p m with
        | true => have := blt_iff.1 hb; omega
        | false => rfl
      simp [Gh.cut, this]
  · refine ⟨hev.os, hev.tape, hev.output, hev.size, hev.old, ⟨hev.ext.imm, fun i b hl hb => ?_, fun p => ?_⟩, hev.new, fun b hb => hev.mutd b ?_⟩
    · have : i.below n = true := below_of (n := n) (fun k hk => hi.freshO k (by omega)) hb
      rw [cut_obj this]
      exact hev.ext.obj i b hl hb
    · cases hp : Nat.blt p m with
      | true => rw [cut_own hp]; exact hev.ext.own p
      | false =>
        have hge : m ≤ p := by
          rcases Nat.lt_or_ge p m with hlt | hge
          · rw [blt_iff.2 hlt] at hp; cases hp
          · exact hge
        rw [hi.freshW p (by omega)]
        trivial
    · rcases hb with ⟨i, x, hx, hbi⟩ | ⟨p, k, hp, hbp⟩
      · obtain ⟨h1, h2⟩ := hO i x hx
        rw [cut_obj h2] at hbi
        exact .inl ⟨i, x, h1, hbi⟩
      · obtain ⟨h1, h2⟩ := hW p k hp
        rw [cut_own h2] at hbp
        exact .inr ⟨p, k, h1, hbp⟩

theorem Inv.cutSto {γ : Gh} {w : World} {σ : Sto} (hi : Inv γ w σ.O σ.own σ.nobj σ.nown) : σ.cut σ.nobj σ.nown = σ := by
  cases σ with
  | mk no ob nw ow =>
    simp only [Sto.cut, Sto.mk.injEq, true_and]
    refine ⟨?_, ?_⟩
    · funext i
      split
      · rfl
      · rename_i h
        cases hx : ob i with
        | none => rfl
        | some x =>
          rcases hi.obj (.out i) x hx with ⟨j, s, g1, g2, g3, g4⟩ | ⟨b, hb, _⟩
          · cases g1
            have h : no ≤ i := by simpa using h
            rw [hi.freshO (i + 1) (Nat.le_succ_of_le h)] at g4
            cases g4
          · rw [hi.freshO i (by simpa using h)] at hb
            cases hb
    · funext p
      split
      · rfl
      · rename_i h
        cases hx : ow p with
        | none => rfl
        | some k =>
          have := hi.own p k hx
          rw [hi.freshW p (by simpa using h)] at this
          exact this.elim

theorem ACall.shutAt {P : Program} {f : FuncId} {args : List AVal} {σ : Sto} {Q : AVal → Sto → Prop} (h : ACall P f args σ Q) {v : AVal}
    (hQ : ∀ r τ, Q r τ → r.sealT σ.nown = v ∧ v.noOut σ.nobj = true ∧ (∀ i, i < σ.nobj → τ.obj i = σ.obj i) ∧ ∀ p, p < σ.nown → τ.own p = σ.own p) :
    ACall P f args σ fun r τ => r = v ∧ τ = σ := by
  intro γ w vs hi hr
  refine (h.gc σ.nobj σ.nown (Nat.le_refl _) (Nat.le_refl _) (fun r τ hq => ?_) γ w vs hi hr).mono fun e w' ⟨v', r, γ', σ', he, hrep, hinv, hev, r0, τ0, hq, e1, e2⟩ => ⟨v', r, γ', σ', he, hrep, hinv, hev, ?_, ?_⟩
  · obtain ⟨h1, h2, h3, h4⟩ := hQ r τ hq
    rw [h1]
    refine ⟨h2, fun i x hx hτ => .inl ⟨hx, ?_⟩⟩
    rw [← h3 i hx]; exact hτ
  · rw [e1, (hQ r0 τ0 hq).1]
  · obtain ⟨_, _, h3, h4⟩ := hQ r0 τ0 hq
    have key : τ0.cut σ.nobj σ.nown = σ.cut σ.nobj σ.nown := by
      unfold Sto.cut
      congr 1
      · funext i
        split
        · rename_i hlt; exact h3 i hlt
        · rfl
      · funext p
        split
        · rename_i hlt; exact h4 p hlt
        · rfl
    exact e2.trans (key.trans hi.cutSto)

/-! ### What is said less exactly -/

def Wk (a b : AVal) : Prop := ∀ (γ : Gh) (w : World) (l : Bool) (v : Value), Rep γ w l a v → Rep γ w l b v
def WkL (as bs : List AVal) : Prop := ∀ (γ : Gh) (w : World) (l : Bool) (vs : List Value), RepL γ w l as vs → RepL γ w l bs vs

theorem Wk.refl (a : AVal) : Wk a a := fun _ _ _ _ h => h
theorem WkL.refl (a : List AVal) : WkL a a := fun _ _ _ _ h => h
theorem WkL.cons {a b : AVal} {as bs : List AVal} (h : Wk a b) (t : WkL as bs) : WkL (a :: as) (b :: bs) := fun γ w l vs hr => by
  cases hr with
  | cons h1 h2 => exact .cons (h _ _ _ _ h1) (t _ _ _ _ h2)
theorem Wk.agg {as bs : List AVal} (h : WkL as bs) : Wk (.agg as) (.agg bs) := fun γ w l v hr => by
  cases hr with
  | agg h1 h2 => exact .agg (h _ _ _ _ h1) h2
theorem Wk.tuple {as bs : List AVal} (h : WkL as bs) : Wk (.tuple as) (.tuple bs) := fun γ w l v hr => by
  cases hr with
  | tuple h1 => exact .tuple (h _ _ _ _ h1)
theorem Wk.ro (es : List AVal) (s : Nat) (t : Tag) : Wk (.slice es s t) (.slice es s .ro) := fun γ w l v hr => by
  cases hr with
  | sliceRow hr hs hc h1 hn hm ht => exact .sliceRow hr hs hc h1 hn hm trivial
  | sliceNil ht ho => exact .sliceNil trivial (.inr rfl)
theorem Wk.nil (s s' : Nat) (t : Tag) : Wk (.slice [] s t) (.slice [] s' .ro) := fun γ w l v hr => by
  generalize he : ([] : List AVal) = es at hr
  cases hr with
  | sliceRow hr hs hc h1 hn hm ht =>
    subst he
    exact .sliceRow hr (fun _ h => by cases h) hc h1 hn hm trivial
  | sliceNil ht ho => exact .sliceNil trivial (.inr rfl)

theorem ACall.wk {P : Program} {f : FuncId} {args : List AVal} {σ : Sto} {Q Q' : AVal → Sto → Prop} (h : ACall P f args σ Q) (hQ : ∀ r τ, Q r τ → ∃ r', Wk r r' ∧ Q' r' τ) : ACall P f args σ Q' :=
  fun γ w vs hi hr => (h γ w vs hi hr).mono fun _ _ ⟨v, r, γ', σ', h1, h2, h3, h4, h5⟩ => by
    obtain ⟨r', h6, h7⟩ := hQ r σ' h5
    exact ⟨v, r', γ', σ', h1, h6 _ _ _ _ h2, h3, h4, h7⟩

theorem ACall.args {P : Program} {f : FuncId} {args args' : List AVal} {σ : Sto} {Q : AVal → Sto → Prop} (h : ACall P f args σ Q) (hw : WkL args' args) : ACall P f args' σ Q :=
  fun γ w vs hi hr => h γ w vs hi (hw _ _ _ _ hr)

theorem ACall.pure {P : Program} {f : FuncId} {args : List AVal} {σ : Sto} {Q : AVal → Sto → Prop} (h : ACall P f args σ Q) {v : AVal} (hv : v.noOut σ.nobj = true) (hv2 : v.noTok σ.nown = true)
    (hQ : ∀ r τ, Q r τ → Wk r v ∧ (∀ i, i < σ.nobj → τ.obj i = σ.obj i) ∧ ∀ p, p < σ.nown → τ.own p = σ.own p) : ACall P f args σ fun r τ => r = v ∧ τ = σ := by
  refine (h.wk (Q' := fun r τ => r = v ∧ (∀ i, i < σ.nobj → τ.obj i = σ.obj i) ∧ ∀ p, p < σ.nown → τ.own p = σ.own p) (fun r τ hq => ?_)).shutAt (fun r τ hq => ?_)
  · obtain ⟨h1, h2, h3⟩ := hQ r τ hq
    exact ⟨v, h1, rfl, h2, h3⟩
  · obtain ⟨rfl, h2, h3⟩ := hq
    exact ⟨seal_noTok r hv2, hv, h2, h3⟩

/-! ### A contract over the empty store serves every store -/

theorem WkL.seal0 : ∀ {as : List AVal}, noOutL 0 (sealL 0 as) = true → ∀ (γ : Gh) (w : World) (l : Bool) (vs : List Value), RepL γ w l as vs → RepL (γ.cut 0 0) w l (sealL 0 as) vs :=
  fun h _ _ _ _ hr => RepL.cut hr h

theorem blt_zero (n : Nat) : Nat.blt n 0 = false := by
  cases h : Nat.blt n 0 with
  | false => rfl
  | true => have := blt_iff.1 h; omega
theorem cut0_obj (γ : Gh) (n : Nat) : (γ.cut 0 0).obj (.out n) = none := by simp [Gh.cut, Oid.below, blt_zero]
theorem cut0_own (γ : Gh) (p : Nat) : (γ.cut 0 0).own p = .free := by simp [Gh.cut, blt_zero]

theorem ACall.ofEmpty {P : Program} {f : FuncId} {args : List AVal} {Q : AVal → Sto → Prop} {v : AVal} (h : ACall P f (sealL 0 args) Sto.empty Q) (ha : noOutL 0 (sealL 0 args) = true) (hv : v.noOut 0 = true) (hv2 : v.noTok 0 = true)
    (hQ : ∀ r τ, Q r τ → Wk r v) (σ : Sto) : ACall P f args σ fun r τ => r = v ∧ τ = σ := by
  intro γ w vs hi hr
  have hr0 : RepL (γ.cut 0 0) w false (sealL 0 args) vs := WkL.seal0 ha γ w false vs hr
  have hi0 : Inv (γ.cut 0 0) w Sto.empty.O Sto.empty.own Sto.empty.nobj Sto.empty.nown := by
    refine ⟨hi.imm, fun i x hx => (top_none i x hx).elim, fun i j x y b hx => (top_none i x hx).elim, fun p n hp => (by cases hp), fun p q n m b hp => (by cases hp), fun i x p n b hx => (top_none i x hx).elim, fun n _ => ?_, fun p _ => ?_, hi.amb⟩
    · exact cut0_obj γ n
    · exact cut0_own γ p
  refine (h (γ.cut 0 0) w vs hi0 hr0).mono fun e w' ⟨u, r, γ', τ, he, hrep, hinv, hev, hq⟩ => ?_
  have hmut : ∀ b, ¬ Mut (γ.cut 0 0) Sto.empty.O Sto.empty.own b := fun b hb => by
    rcases hb with ⟨i, x, hx, _⟩ | ⟨p, n, hp, _⟩
    · exact top_none i x hx
    · cases hp
  have hold : ∀ b, b < w.heap.size → w'.heap[b]? = w.heap[b]? := fun b hb => hev.old b hb (hmut b)
  have hnew : ∀ b o, b < w.heap.size → γ'.imm b o → γ.imm b o := fun b o hb hi' => by
    rcases hev.new b o hi' with h1 | h1 | h1
    · exact h1
    · omega
    · exact (hmut b h1).elim
  have e1 : ∀ l, Ext l γ w { γ with imm := γ'.imm } w' := fun l => ⟨fun b o hb => hev.ext.imm b o hb, fun _ _ _ h => h, fun p => OwnStep.refl _⟩
  have hrv : Rep γ' w' false v u := hQ r τ hq _ _ _ _ hrep
  have hrc : Rep (γ'.cut 0 0) w' false v u := by
    have := Rep.cut (n := 0) (m := 0) hrv (by rw [seal_noTok v hv2]; exact hv)
    rwa [seal_noTok v hv2] at this
  have e2 : Ext false (γ'.cut 0 0) w' { γ with imm := γ'.imm } w' := ⟨fun b o hb => ⟨hb, rfl⟩, (fun i b hl hb => by
    cases i with
    | loc k => simp [Oid.isOut] at hl
    | out k => rw [cut0_obj] at hb; cases hb), fun p => (by rw [cut0_own]; trivial)⟩
  refine ⟨u, v, { γ with imm := γ'.imm }, σ, he, Rep.mono e2 hrc, ?_, ?_, rfl, rfl⟩
  · refine ⟨fun b o hb => ?_, fun i x hx => ?_, hi.inj, fun p n hp => ?_, hi.ownInj, hi.apart, hi.freshO, hi.freshW, hinv.amb⟩
    · exact hinv.imm b o hb
    · rcases hi.obj i x hx with h1 | ⟨b, hb, hok⟩
      · exact .inl h1
      exact .inr ⟨b, hb, hok.mono (e1 _) (hold b hok.lt) (fun o ho => hok.notImm o (hnew b o hok.lt ho))⟩
    · have hok := hi.own p n hp
      exact hok.mono (fun b hb => hold b (hok.lt hb)) (fun b o hb ho => hnew b o (hok.lt hb) ho)
  · refine ⟨hev.os, hev.tape, hev.output, hev.size, fun b hb _ => hold b hb, e1 false, fun b o hb => ?_, fun b hb => .inl hb⟩
    rcases hev.new b o hb with h1 | h1 | h1
    · exact .inl h1
    · exact .inr (.inl h1)
    · exact (hmut b h1).elim

theorem PCall.ofEmpty {P : Program} {f : FuncId} {args : List AVal} {Q : AVal → Sto → Prop} {v : AVal} (h : ACall P f (sealL 0 args) Sto.empty Q) (ha : noOutL 0 (sealL 0 args) = true) (hv : v.noOut 0 = true) (hv2 : v.noTok 0 = true)
    (hQ : ∀ r τ, Q r τ → Wk r v) : PCall P f args v := fun σ => h.ofEmpty ha hv hv2 hQ σ
/-! ### Elements said less exactly -/
theorem WkL.append : ∀ {as as' : List AVal}, as.length = as'.length → WkL as as' → ∀ {bs bs' : List AVal}, WkL bs bs' → WkL (as ++ bs) (as' ++ bs') := by
  intro as as' hl h bs bs' k γ w l vs hr
  have h1 := RepL.split hr
  have := RepL.append (k _ _ _ _ h1.2) (h _ _ _ _ h1.1)
  rwa [List.take_append_drop] at this
theorem WkL.flat {g : AVal → AVal} : ∀ {es : List AVal}, (∀ e ∈ es, WkL e.cells (g e).cells ∧ (g e).cells.length = e.cells.length) → WkL (AL.flat es) (AL.flat (es.map g))
  | [], _ => .refl _
  | e :: es, h => by
    simp only [AL.flat, List.map_cons, List.flatMap_cons]
    have h1 := h e (by simp)
    exact WkL.append h1.2.symm h1.1 (WkL.flat (es := es) fun x hx => h x (by simp [hx]))
theorem Wk.elems {g : AVal → AVal} {es : List AVal} {s : Nat} {t : Tag} (h : ∀ e ∈ es, WkL e.cells (g e).cells ∧ (g e).cells.length = e.cells.length) : Wk (.slice es s t) (.slice (es.map g) s .ro) := fun γ w l v hr => by
  cases hr with
  | sliceRow hr hs hc h1 hn hm ht =>
    have := Rep.sliceRow (γ := γ) (w := w) (l := l) (tag := .ro) (es := es.map g) (WkL.flat h _ _ _ _ hr) (fun e he => by
      obtain ⟨x, hx, rfl⟩ := List.mem_map.1 he
      rw [(h x hx).2]; exact hs x hx) hc h1 (by simpa using hn) hm trivial
    simpa using this
  | sliceNil ht ho => exact .sliceNil trivial (.inr rfl)
/-! ### An object's nil slice is said to bear a permission -/
end Go.AL
end

section
namespace Go.AL

theorem wrap_i64 {n : Int} (h0 : -9223372036854775808 ≤ n) (h1 : n ≤ 9223372036854775807) : IntKind.i64.wrap n = n := by
  have e1 : IntKind.i64.min = -9223372036854775808 := by decide
  have e2 : IntKind.i64.max = 9223372036854775807 := by decide
  simp only [IntKind.wrap, IntKind.signed, IntKind.bits]
  simp
  omega

noncomputable def holdA {α : Type} (a : α) : α := Classical.choose (⟨a, rfl⟩ : ∃ b : α, b = a)
@[simp] theorem holdA_eq {α : Type} (a : α) : holdA a = a := Classical.choose_spec (⟨a, rfl⟩ : ∃ b : α, b = a)

theorem elemAt_get {es : List AVal} {i : Nat} (h : i < es.length) : elemAt es (i : Int) = es[i].cells := by
  simp [elemAt, List.getD, h]

@[simp] theorem own_setOwn (σ : Sto) (p n q : Nat) : (σ.setOwn p n).own q = if q = p then some n else σ.own q := rfl
@[simp] theorem own_pushOwn (σ : Sto) (n q : Nat) : (σ.pushOwn n).own q = if q = σ.nown then some n else σ.own q := rfl
@[simp] theorem nown_setOwn (σ : Sto) (p n : Nat) : (σ.setOwn p n).nown = σ.nown := rfl
@[simp] theorem nown_pushOwn (σ : Sto) (n : Nat) : (σ.pushOwn n).nown = σ.nown + 1 := rfl
@[simp] theorem obj_setOwn (σ : Sto) (p n : Nat) : (σ.setOwn p n).obj = σ.obj := rfl
@[simp] theorem obj_pushOwn (σ : Sto) (n : Nat) : (σ.pushOwn n).obj = σ.obj := rfl
@[simp] theorem nobj_setOwn (σ : Sto) (p n : Nat) : (σ.setOwn p n).nobj = σ.nobj := rfl
@[simp] theorem nobj_pushOwn (σ : Sto) (n : Nat) : (σ.pushOwn n).nobj = σ.nobj := rfl

theorem leaveTo {id : Nat} {f : St → Prop} {K : Exit → St → Prop} {st : St} (h : f st) : blockK id (thenK f K) (.exit id) st := by
  simp only [blockK, if_true]
  exact h

theorem leaveK {id : Nat} {K : Exit → St → Prop} {st : St} (h : K .normal st) : blockK id K (.exit id) st := by
  simp only [blockK, if_true]
  exact h

theorem inBlock {id : Nat} {f : St → Prop} {K : Exit → St → Prop} {st : St} (h : f st) : blockK id (thenK f K) .normal st := h

theorem toCut {X : St → Prop} {s : St} (h : X s) : cutV X s := h

/-! ### The empty store, with permissions pushed -/
end Go.AL
end

section
namespace Go.AL
set_option linter.unusedSimpArgs false
set_option linter.unusedVariables false

theorem dt {p : Prop} [Decidable p] (h : p) : decide p = true := decide_eq_true h

/-! ### Lists of one kind -/
theorem elemAt_map {β : Type} (f : β → AVal) (xs : List β) (i : Nat) (h : i < xs.length) : elemAt (xs.map f) (i : Int) = (f xs[i]).cells := by
  rw [elemAt_get (by simpa using h)]
  simp
theorem noOutL_map {β : Type} {f : β → AVal} (n : Nat) (h : ∀ x, (f x).noOut n = true) : ∀ xs : List β, noOutL n (xs.map f) = true
  | [] => rfl
  | x :: xs => by simp only [List.map_cons, noOutL, h x, noOutL_map n h xs, Bool.and_self]
theorem noTokL_map {β : Type} {f : β → AVal} (n : Nat) (h : ∀ x, (f x).noTok n = true) : ∀ xs : List β, noTokL n (xs.map f) = true
  | [] => rfl
  | x :: xs => by simp only [List.map_cons, noTokL, h x, noTokL_map n h xs, Bool.and_self]
theorem i64_succ {i n : Nat} (h : i < n) (hn : n ≤ 140737488351232) : IntKind.i64.wrap ((i : Int) + 1) = ((i + 1 : Nat) : Int) := by rw [wrap_i64 (by omega) (by omega)]; rfl

/-! ### It has the width, or no elements -/
def okW (n s : Nat) (es : List AVal) : Bool := s == n || es.isEmpty
theorem okW_same (n : Nat) (es : List AVal) : okW n n es = true := by simp [okW]
theorem wkW {n s : Nat} {es : List AVal} (t : Tag) (h : okW n s es = true) : Wk (.slice es s t) (.slice es n .ro) := by
  simp only [okW, Bool.or_eq_true, beq_iff_eq] at h
  rcases h with rfl | h
  · exact Wk.ro es s t
  · have : es = [] := List.isEmpty_iff.1 h
    subst this
    exact Wk.nil s n t
/-! ### Bytes -/
def bw (l : List UInt8) : List AVal := l.map ofByte
def byteIs : AVal → Bool
  | .int .u8 n => decide (0 ≤ n) && decide (n < 256)
  | _ => false
theorem u8_lt (b : UInt8) : b.toNat < 256 := b.toNat_lt
theorem bw_cons (b : UInt8) (l : List UInt8) : bw (b :: l) = .int .u8 (b.toNat : Int) :: bw l := rfl
@[simp] theorem bw_length (l : List UInt8) : (bw l).length = l.length := by simp [bw]
theorem byteOf_ofByte (b : UInt8) : byteOf (ofByte b) = b := by simp [byteOf, ofByte]
@[simp] theorem map_byteOf_bw (l : List UInt8) : (bw l).map AL.byteOf = l := by
  simp only [bw, List.map_map]
  conv => rhs; rw [← List.map_id l]
  exact List.map_congr_left fun b _ => byteOf_ofByte b
@[simp] theorem bw_isU8 (l : List UInt8) : (bw l).all isU8 = true := by simp [bw, isU8, ofByte]
@[simp] theorem bw_byteIs (l : List UInt8) : (bw l).all byteIs = true := by
  simp only [bw, List.all_map, List.all_eq_true]
  intro b _
  have := u8_lt b
  simp [byteIs, ofByte]; omega
theorem bw_noOut (n : Nat) (l : List UInt8) : noOutL n (bw l) = true := noOutL_map n (fun _ => rfl) l
theorem bw_noTok (n : Nat) (l : List UInt8) : noTokL n (bw l) = true := noTokL_map n (fun _ => rfl) l
theorem bw_of {es : List AVal} (h : es.all byteIs = true) : es = bw (es.map AL.byteOf) := by
  induction es with
  | nil => rfl
  | cons e es ih =>
    simp only [List.all_cons, Bool.and_eq_true] at h
    have h1 := h.1
    unfold byteIs at h1
    split at h1
    · rename_i n
      simp only [Bool.and_eq_true, decide_eq_true_eq] at h1
      simp only [List.map_cons, bw_cons, byteOf]
      rw [← ih h.2]
      congr 1
      have : (UInt8.ofNat n.toNat).toNat = n.toNat := by simp; omega
      rw [this]
      congr 1
      omega
    · cases h1
theorem wk_bw {s : Nat} {es : List AVal} (t : Tag) (hn : okW 1 s es = true) (h : es.all byteIs = true) : Wk (.slice es s t) (.slice (bw (es.map AL.byteOf)) 1 .ro) := by
  rw [← bw_of h]
  exact wkW t hn

/-! ### Numbers, texts -/
def iv (l : List Int) : List AVal := l.map (AVal.int .i64)
@[simp] theorem iv_length (l : List Int) : (iv l).length = l.length := by simp [iv]
def isI64 : AVal → Bool
  | .int .i64 _ => true
  | _ => false
@[simp] theorem iv_isI64 (l : List Int) : (iv l).all isI64 = true := by simp [iv, isI64]
@[simp] theorem map_intOf_iv (l : List Int) : (iv l).map AVal.intOf = l := by
  simp only [iv, List.map_map]
  conv => rhs; rw [← List.map_id l]
  exact List.map_congr_left fun b _ => rfl
def strv (l : List (List UInt8)) : List AVal := l.map AVal.str
@[simp] theorem strv_length (l : List (List UInt8)) : (strv l).length = l.length := by simp [strv]
theorem elemAt_strv (l : List (List UInt8)) (i : Nat) (h : i < l.length) : elemAt (strv l) (i : Int) = [.str l[i]] := elemAt_map AVal.str l i h
def bwsV (l : List UInt8) : AVal := .slice (bw l) 1 .ro
def bws (ls : List (List UInt8)) : List AVal := ls.map bwsV
@[simp] theorem bws_length (l : List (List UInt8)) : (bws l).length = l.length := by simp [bws]
def bytesIs : AVal → Bool
  | .slice es s _ => okW 1 s es && es.all byteIs
  | _ => false
def bytesOfV (v : AVal) : List UInt8 := v.elems.map AL.byteOf
@[simp] theorem map_bytesOfV (ls : List (List UInt8)) : (bws ls).map bytesOfV = ls := by
  simp only [bws, List.map_map]
  conv => rhs; rw [← List.map_id ls]
  exact List.map_congr_left fun b _ => by simp [bytesOfV, bwsV, AVal.elems]
@[simp] theorem bws_is (ls : List (List UInt8)) : (bws ls).all bytesIs = true := by
  simp only [bws, List.all_map, List.all_eq_true]
  intro l _
  simp [bytesIs, bwsV, okW_same]
/-! ### What comes in -/
/-! ### Contracts over the empty store -/
theorem pcall_of {P : Program} {f : FuncId} {args args' : List AVal} {v : AVal} (hw : WkL args args') (h : ACall P f args' Sto.empty fun r _ => Wk r v) (ho : noOutL 0 args' = true) (ht : noTokL 0 args' = true) (hv : v.noOut 0 = true) (hv2 : v.noTok 0 = true) : PCall P f args v := by
  intro σ
  refine ACall.args ?_ hw
  have hs := sealL_noTok args' ht
  exact ACall.ofEmpty (by rw [hs]; exact h) (by rw [hs]; exact ho) hv hv2 (fun r τ hq => hq) σ
/-! ### Stores -/
theorem set_setOwn (σ : Sto) (o p n : Nat) (x : AObj) : (σ.setOwn p n).set o x = (σ.set o x).setOwn p n := rfl
theorem set_same {σ : Sto} {o : Nat} {x : AObj} (h : σ.obj o = some x) : σ.set o x = σ := by
  cases σ with
  | mk a b c d =>
    simp only [Sto.set, Sto.mk.injEq, true_and, and_true]
    funext n
    split
    · rename_i e; subst e; exact h.symm
    · rfl
/-! ### Permissions that are given up -/
end Go.AL
end

section
namespace Go.AL
set_option linter.unusedSimpArgs false
set_option linter.unusedVariables false

/-! ### Rows, as they read -/
mutual
def viewA (ob : Nat → Option AObj) : AVal → AVal
  | .mrow k _ => match ob k with
    | some (.buf es s _) => .slice es s .ro
    | _ => .undef
  | .agg cs => .agg (viewL ob cs)
  | .tuple vs => .tuple (viewL ob vs)
  | a => a
def viewL (ob : Nat → Option AObj) : List AVal → List AVal
  | [] => []
  | a :: as => viewA ob a :: viewL ob as
end
mutual
noncomputable def viewOk (ob : Nat → Option AObj) : AVal → Bool
  | .mrow k len => match ob k with
    | some (.buf es _ g) => Nat.beq g (k + 1) && (hold (decide (len = es.length)) && (noOutL 0 es && noTokL 0 es))
    | _ => false
  | .agg cs => viewOkL ob cs
  | .tuple vs => viewOkL ob vs
  | a => a.noOut 0 && a.noTok 0
noncomputable def viewOkL (ob : Nat → Option AObj) : List AVal → Bool
  | [] => true
  | a :: as => viewOk ob a && viewOkL ob as
end
mutual
def AVal.hasRow : AVal → Bool
  | .mrow _ _ => true
  | .agg cs => hasRowL cs
  | .tuple vs => hasRowL vs
  | _ => false
def hasRowL : List AVal → Bool
  | [] => false
  | a :: as => a.hasRow || hasRowL as
end
mutual
def AVal.plain : AVal → Bool
  | .bool _ => true
  | .int _ _ => true
  | .str _ => true
  | .agg cs => plainL cs
  | .tuple vs => plainL vs
  | _ => false
def plainL : List AVal → Bool
  | [] => true
  | a :: as => a.plain && plainL as
end

mutual
theorem Rep.plain {γ γ2 : Gh} {w w2 : World} {l : Bool} : ∀ {a : AVal} {u : Value}, Rep γ w l a u → a.plain = true → Rep γ2 w2 l a u
  | .bool _, _, .bool _ _, _ => .bool _ _
  | .int _ _, _, .int _ _ _, _ => .int _ _ _
  | .str _, _, .str _ _, _ => .str _ _
  | .agg _, _, .agg h h1, e => .agg (RepL.plain h (by simpa [AVal.plain] using e)) h1
  | .tuple _, _, .tuple h, e => .tuple (RepL.plain h (by simpa [AVal.plain] using e))
theorem RepL.plain {γ γ2 : Gh} {w w2 : World} {l : Bool} : ∀ {as : List AVal} {us : List Value}, RepL γ w l as us → plainL as = true → RepL γ2 w2 l as us
  | [], _, .nil _, _ => .nil _
  | _ :: _, _, .cons h t, e => by
    simp only [plainL, Bool.and_eq_true] at e
    exact .cons (Rep.plain h e.1) (RepL.plain t e.2)
end

def Gh.view (γ : Gh) (w : World) (σ : Sto) : Gh where
  imm := fun b o => γ.imm b o ∨ ((∃ v, w.cell? ⟨b, o, none⟩ = some v) ∧ ∃ k es s g, σ.obj k = some (.buf es s g) ∧ γ.obj (.out k) = some b)
  obj := fun _ => none
  own := fun _ => .free

theorem Ext.cut0 {γ γ2 : Gh} {w : World} (h : ∀ b o, γ.imm b o → γ2.imm b o) : Ext false (γ.cut 0 0) w γ2 w :=
  ⟨fun b o hb => ⟨h b o hb, rfl⟩, (fun i b hl hb => by
    cases i with
    | loc k => simp [Oid.isOut] at hl
    | out k => rw [cut0_obj] at hb; cases hb), fun p => by rw [cut0_own]; trivial⟩

theorem RepL.closed {γ γ2 : Gh} {w : World} {as : List AVal} {us : List Value} (h : RepL γ w false as us) (h1 : noOutL 0 as = true) (h2 : noTokL 0 as = true) (hi : ∀ b o, γ.imm b o → γ2.imm b o) : RepL γ2 w false as us := by
  have e := sealL_noTok as h2
  have := RepL.cut (n := 0) (m := 0) h (by rw [e]; exact h1)
  rw [e] at this
  exact RepL.mono (Ext.cut0 hi) this
theorem Rep.closed {γ γ2 : Gh} {w : World} {a : AVal} {u : Value} (h : Rep γ w false a u) (h1 : a.noOut 0 = true) (h2 : a.noTok 0 = true) (hi : ∀ b o, γ.imm b o → γ2.imm b o) : Rep γ2 w false a u := by
  have e := seal_noTok a h2
  have := Rep.cut (n := 0) (m := 0) h (by rw [e]; exact h1)
  rw [e] at this
  exact Rep.mono (Ext.cut0 hi) this

mutual
theorem Rep.view {γ : Gh} {w : World} {σ : Sto} (hi : Inv γ w σ.O σ.own σ.nobj σ.nown) : ∀ {a : AVal} {u : Value}, Rep γ w false a u → viewOk σ.obj a = true → Rep (γ.view w σ) w false (viewA σ.obj a) u
  | .mrow k len, _, .mrow (cap := cap) (a := ad) hc hn hb, e => by
    unfold viewOk at e
    unfold viewA
    split at e
    · rename_i es s g hk
      simp only [Bool.and_eq_true, hold_eq, decide_eq_true_eq] at e
      obtain ⟨e1, rfl, e2, e3⟩ := e
      have e1 := Nat.eq_of_beq_eq_true e1
      subst e1
      by_cases h0 : cap = 0
      · subst h0
        have hes : es = [] := List.eq_nil_of_length_eq_zero (by omega)
        subst hes
        exact .sliceNil trivial (.inr rfl)
      · obtain ⟨b, rfl, hb2⟩ := hb (by omega)
        obtain ⟨vs, junk, T, cap', h1, h2, h3, h4, h5, h6, h7, h8, h9⟩ := hi.objb (i := .out k) hk hb2
        rw [hc] at h5
        cases h5
        have hlv := h2.length
        refine .sliceRow (RepL.closed h2 (by rw [noOut_flat]; exact e2) (by rw [noTok_flat]; exact e3) fun b o h => .inl h) h3 (fun j v hj => ?_) (fun v hv => h4 v (List.mem_append_left _ hv)) hn h8 trivial
        have hlt : j < vs.length := (List.getElem?_eq_some_iff.1 hj).1
        have hcell : w.cell? ⟨b, 0 + j, none⟩ = some v := by
          simp only [World.cell?, h1, Nat.zero_add]
          simp only [Option.isSome_none, Bool.false_eq_true, if_false]
          rw [List.getElem?_toArray, List.getElem?_append_left hlt]
          exact hj
        exact ⟨.inr ⟨⟨v, hcell⟩, k, es, s, _, hk, hb2⟩, hcell⟩
    · cases e
  | .agg cs, _, .agg h h1, e => by
    unfold viewOk at e
    unfold viewA
    exact .agg (RepL.view hi h e) h1
  | .tuple cs, _, .tuple h, e => by
    unfold viewOk at e
    unfold viewA
    exact .tuple (RepL.view hi h e)
  | .undef, _, h, e => by simp only [viewOk, Bool.and_eq_true] at e; exact Rep.closed h e.1 e.2 fun b o h => .inl h
  | .bool _, _, h, e => by simp only [viewOk, Bool.and_eq_true] at e; exact Rep.closed h e.1 e.2 fun b o h => .inl h
  | .int _ _, _, h, e => by simp only [viewOk, Bool.and_eq_true] at e; exact Rep.closed h e.1 e.2 fun b o h => .inl h
  | .str _, _, h, e => by simp only [viewOk, Bool.and_eq_true] at e; exact Rep.closed h e.1 e.2 fun b o h => .inl h
  | .slice _ _ _, _, h, e => by simp only [viewOk, Bool.and_eq_true] at e; exact Rep.closed h e.1 e.2 fun b o h => .inl h
  | .arr _ _ _ _, _, h, e => by simp only [viewOk, Bool.and_eq_true] at e; exact Rep.closed h e.1 e.2 fun b o h => .inl h
  | .iptr _, _, h, e => by simp only [viewOk, Bool.and_eq_true] at e; exact Rep.closed h e.1 e.2 fun b o h => .inl h
  | .ptr _ _, _, h, e => by simp only [viewOk, Bool.and_eq_true] at e; exact Rep.closed h e.1 e.2 fun b o h => .inl h
  | .nilptr, _, h, e => by simp only [viewOk, Bool.and_eq_true] at e; exact Rep.closed h e.1 e.2 fun b o h => .inl h
  | .map _, _, h, e => by simp only [viewOk, Bool.and_eq_true] at e; exact Rep.closed h e.1 e.2 fun b o h => .inl h
  | .nilmap, _, h, e => by simp only [viewOk, Bool.and_eq_true] at e; exact Rep.closed h e.1 e.2 fun b o h => .inl h
  | .func _ _ _, _, h, e => by simp only [viewOk, Bool.and_eq_true] at e; exact Rep.closed h e.1 e.2 fun b o h => .inl h
  | .nilfunc, _, h, e => by simp only [viewOk, Bool.and_eq_true] at e; exact Rep.closed h e.1 e.2 fun b o h => .inl h
  | .iface _ _, _, h, e => by simp only [viewOk, Bool.and_eq_true] at e; exact Rep.closed h e.1 e.2 fun b o h => .inl h
  | .nilIface, _, h, e => by simp only [viewOk, Bool.and_eq_true] at e; exact Rep.closed h e.1 e.2 fun b o h => .inl h
theorem RepL.view {γ : Gh} {w : World} {σ : Sto} (hi : Inv γ w σ.O σ.own σ.nobj σ.nown) : ∀ {as : List AVal} {us : List Value}, RepL γ w false as us → viewOkL σ.obj as = true → RepL (γ.view w σ) w false (viewL σ.obj as) us
  | [], _, .nil _, _ => .nil _
  | _ :: _, _, .cons h t, e => by
    simp only [viewOkL, Bool.and_eq_true] at e
    exact .cons (Rep.view hi h e.1) (RepL.view hi t e.2)
end

theorem Inv.emptyOf {γ : Gh} {w : World} (h1 : ∀ b o, γ.imm b o → b < w.heap.size) (h2 : ∀ n, γ.obj (.out n) = none) (h3 : ∀ p, γ.own p = .free) (h4 : Amb γ w) : Inv γ w Sto.empty.O Sto.empty.own Sto.empty.nobj Sto.empty.nown :=
  ⟨h1, fun i x hx => (top_none i x hx).elim, fun i j x y b hx => (top_none i x hx).elim, fun p n hp => (by cases hp), fun p q n m b hp => (by cases hp), fun i x p n b hx => (top_none i x hx).elim, fun n _ => h2 n, fun p _ => h3 p, h4⟩

theorem Inv.viewOf {γ : Gh} {w : World} {σ : Sto} (hi : Inv γ w σ.O σ.own σ.nobj σ.nown) : Inv (γ.view w σ) w Sto.empty.O Sto.empty.own Sto.empty.nobj Sto.empty.nown :=
  Inv.emptyOf (fun b o h => h.elim (hi.imm b o) (fun h => h.1.elim fun _ hv => World.block_lt_of_cell? w ⟨b, o, none⟩ hv)) (fun _ => rfl) (fun _ => rfl) ⟨hi.amb.1, fun x hx => .inl (hi.amb.2.1 x hx), fun x hx => .inl (hi.amb.2.2.1 x hx), fun x hx o ho => .inl (hi.amb.2.2.2 x hx o ho)⟩

theorem PCall.view {P : Program} {f : FuncId} {xs : List AVal} {v : AVal} {σ : Sto} (h : PCall P f (viewL σ.obj xs) v) (hok : viewOkL σ.obj xs = true) (hp : v.plain = true) : ACall P f xs σ fun r τ => r = v ∧ τ = σ := by
  intro γ w vs hi hr
  refine (h Sto.empty (γ.view w σ) w vs hi.viewOf (RepL.view hi hr hok)).mono fun e w' ⟨u, r, γ', τ, he, hrep, hinv, hev, hr1, hτ⟩ => ?_
  subst hr1
  have hmut : ∀ b, ¬ Mut (γ.view w σ) Sto.empty.O Sto.empty.own b := fun b hb => by
    rcases hb with ⟨i, x, hx, _⟩ | ⟨p, n, hp, _⟩
    · exact top_none i x hx
    · cases hp
  have hold : ∀ b, b < w.heap.size → w'.heap[b]? = w.heap[b]? := fun b hb => hev.old b hb (hmut b)
  have e1 : ∀ l, Ext l γ w γ w' := fun l => ⟨fun b o hb => ⟨hb, cell?_heap (hold b (hi.imm_lt hb))⟩, fun _ _ _ h => h, fun p => OwnStep.refl _⟩
  refine ⟨u, r, γ, σ, he, Rep.plain hrep hp, ?_, ?_, rfl, rfl⟩
  · refine ⟨fun b o hb => ?_, fun i x hx => ?_, hi.inj, fun p n hp => ?_, hi.ownInj, hi.apart, hi.freshO, hi.freshW, hi.amb.mono (e1 true) hev.size⟩
    · exact Nat.lt_of_lt_of_le (hi.imm b o hb) hev.size
    · rcases hi.obj i x hx with h1 | ⟨b, hb, hok⟩
      · exact .inl h1
      exact .inr ⟨b, hb, hok.mono (e1 _) (hold b hok.lt) hok.notImm⟩
    · have hok := hi.own p n hp
      exact hok.mono (fun b hb => hold b (hok.lt hb)) (fun b o hb ho => ho)
  · exact ⟨hev.os, hev.tape, hev.output, hev.size, fun b hb _ => hold b hb, e1 false, fun b o hb => .inl hb, fun b hb => .inl hb⟩

noncomputable section
def roAns (ok : Bool) (σ : Sto) : Ans → Ans
  | .pure c v => .full (ok && (c && v.plain)) v σ
  | .nm x f => .nm x fun y => roAns ok σ (f y)
  | .br b x y => .br b (roAns ok σ x) (roAns ok σ y)
  | _ => .pure false .undef
def roE (e : Ent) : Ent := (e.1, fun xs σ =>
  match hasRowL xs with
  | false => e.2 xs σ
  | true => match e.2 (viewL σ.obj xs) Sto.empty with
    | some a => some (roAns (viewOkL σ.obj xs) σ a)
    | none => none)
end

/-! ### Rows, frozen at a call's end -/

/-! ### A row is made -/

def Sto.pushRow (σ : Sto) (es : List AVal) (s : Nat) : Sto := { σ with nobj := σ.nobj + 2, obj := fun n => if n = σ.nobj then some (.buf es s (σ.nobj + 1)) else σ.obj n }
def Sto.del (σ : Sto) (k : Nat) : Sto := { σ with obj := fun n => if n = k then none else σ.obj n }
def Sto.one (x : AObj) : Sto := { nobj := 1, obj := fun n => if n = 0 then some x else none, nown := 0, own := fun _ => none }

/-! ### A row is used up -/

theorem ACall.drop {P : Program} {f : FuncId} {args : List AVal} {σ : Sto} {v : AVal} (h : ACall P f args σ fun r τ => r = v ∧ τ = σ) (k : Nat) : ACall P f args σ fun r τ => r = v ∧ τ = σ.del k := by
  intro γ w vs hi hr
  refine (h γ w vs hi hr).mono fun e w' ⟨u, r, γ', τ, he, hrep, hinv, hev, h1, h2⟩ => ?_
  subst h2
  have hO : ∀ i x, (τ.del k).O i = some x → τ.O i = some x := fun i x hx => by
    cases i with
    | loc j => cases hx
    | out n =>
      simp only [Sto.O, Sto.del] at hx ⊢
      split at hx
      · cases hx
      · exact hx
  refine ⟨u, r, γ', τ.del k, he, hrep, hinv.sub hO, ?_, h1, rfl⟩
  exact hev.trans ⟨rfl, rfl, rfl, Nat.le_refl _, fun _ _ _ => rfl, Ext.refl _ _ _, fun b o hb => .inl hb, fun b hb => .inl (Mut.sub hO hb)⟩

end Go.AL
end

section
namespace Go.AL
set_option linter.unusedSimpArgs false
set_option linter.unusedVariables false

theorem Known.below {w W : World} (hb : Go.RowKit.Below w.heap.size w W) (h : Known w) : Known W := by
  have key : ∀ b o v, w.cell? ⟨b, o, none⟩ = some v → W.cell? ⟨b, o, none⟩ = some v := fun b o v h1 => by
    have hlt : b < w.heap.size := by
      rcases Nat.lt_or_ge b w.heap.size with h' | h'
      · exact h'
      · simp [World.cell?, Array.getElem?_eq_none h'] at h1
    rw [hb.cell (p := ⟨b, o, none⟩) hlt]; exact h1
  exact ⟨fun x hx => key _ _ _ (h.1 x hx), fun x hx => let ⟨v, h1, h2⟩ := h.2.1 x hx; ⟨v, key _ _ _ h1, h2⟩, fun x hx => ⟨Nat.lt_of_lt_of_le (h.2.2 x hx).1 hb.size, fun o ho => by
    rw [hb.cell (p := ⟨x.1, o, none⟩) (h.2.2 x hx).1]; exact (h.2.2 x hx).2 o ho⟩⟩
theorem Ext.below {l : Bool} {γ : Gh} {w w' : World} (hlt : ∀ b o, γ.imm b o → b < w.heap.size) (hb : Go.RowKit.Below w.heap.size w w') : Ext l γ w γ w' :=
  ⟨fun b o hi => ⟨hi, cell?_heap (hb.block b (hlt b o hi))⟩, fun _ _ _ h => h, fun p => OwnStep.refl _⟩
theorem Inv.below {γ : Gh} {w w' : World} {O : Oid → Option AObj} {W : Nat → Option Nat} {no nw : Nat} (h : Inv γ w O W no nw) (hb : Go.RowKit.Below w.heap.size w w') : Inv γ w' O W no nw := by
  have e : ∀ l, Ext l γ w γ w' := fun l => Ext.below (fun b o hi => h.imm_lt hi) hb
  refine ⟨fun b o hi => ?_, fun i x hx => ?_, h.inj, fun p n hp => ?_, h.ownInj, h.apart, h.freshO, h.freshW, h.amb.mono (e true) hb.size⟩
  · exact Nat.lt_of_lt_of_le (h.imm b o hi) hb.size
  · rcases h.obj i x hx with h1 | ⟨b, hbk, hok⟩
    · exact .inl h1
    · exact .inr ⟨b, hbk, hok.mono (e _) (hb.block b hok.lt) hok.notImm⟩
  · have hok := h.own p n hp
    exact hok.mono (fun b hbk => hb.block b (hok.lt hbk)) (fun b o hbk hi => hi)
theorem Evo.below {γ : Gh} {w w' : World} {O : Oid → Option AObj} {W : Nat → Option Nat} (hlt : ∀ b o, γ.imm b o → b < w.heap.size) (hb : Go.RowKit.Below w.heap.size w w') : Evo γ w O W γ w' O W :=
  ⟨hb.os, hb.tape, hb.output, hb.size, fun b h _ => hb.block b h, Ext.below hlt hb, fun _ _ h => .inl h, fun _ h => .inl h⟩
theorem PCall.ofBelow {P : Program} {g : FuncId} {xs : List AVal} {v : AVal}
    (h : ∀ γ w vs, RepL γ w false xs vs → Calls P g vs.toArray w fun e w' => ∃ u, e = .returned u ∧ Rep γ w' false v u ∧ Go.RowKit.Below w.heap.size w w') : PCall P g xs v :=
  fun σ γ w vs hi hr => (h γ w vs hr).mono fun e w' ⟨u, h1, h2, h3⟩ =>
    ⟨u, v, γ, σ, h1, h2, hi.below h3, Evo.below (fun b o hm => hi.imm_lt hm) h3, rfl, rfl⟩
theorem repStr {γ : Gh} {w : World} {l : Bool} {s : List UInt8} {u : Value} (h : Rep γ w l (.str s) u) : u = .string ⟨s.toArray⟩ := by cases h; rfl
theorem repL1 {γ : Gh} {w : World} {l : Bool} {a : AVal} {vs : List Value} (h : RepL γ w l [a] vs) : ∃ u, vs = [u] ∧ Rep γ w l a u := by
  cases h with
  | cons h1 h2 => cases h2; exact ⟨_, rfl, h1⟩
theorem repL2 {γ : Gh} {w : World} {l : Bool} {a b : AVal} {vs : List Value} (h : RepL γ w l [a, b] vs) : ∃ u v, vs = [u, v] ∧ Rep γ w l a u ∧ Rep γ w l b v := by
  cases h with
  | cons h1 h2 => obtain ⟨v, rfl, h3⟩ := repL1 h2; exact ⟨_, _, rfl, h1, h3⟩
end Go.AL
end

section
namespace Go.AL
set_option linter.unusedSimpArgs false
set_option linter.unusedVariables false

section
variable {β : Type}
def mi (f : β → AVal) (m : List (Int × β)) : List (AVal × AVal) := m.map fun x => (.int .i64 x.1, f x.2)
def getI (m : List (Int × β)) (k : Int) : Option β := (m.find? fun x => x.1 == k).map (·.2)
def putI (k : Int) (v : β) : List (Int × β) → List (Int × β)
  | [] => [(k, v)]
  | x :: r => if x.1 = k then (k, v) :: r else x :: putI k v r
def delI (k : Int) : List (Int × β) → List (Int × β)
  | [] => []
  | x :: r => if x.1 = k then r else x :: delI k r
@[simp] theorem mi_length (f : β → AVal) (m : List (Int × β)) : (mi f m).length = m.length := by simp [mi]
end
def mb (m : List (Int × Bool)) : List (AVal × AVal) := mi AVal.bool m
end Go.AL
end

section
namespace Go.AL
set_option linter.unusedSimpArgs false
set_option linter.unusedVariables false

def insL {α : Type} (l : List α) (i : Nat) (x : α) : List α := l.take i ++ x :: l.drop i
def delL {α : Type} (l : List α) (i : Nat) : List α := l.take i ++ l.drop (i + 1)
def insC (E : List AVal) (i : Nat) (x : AVal) : List AVal := E.take i ++ x :: E.drop i
def delC (E : List AVal) (i : Nat) : List AVal := E.take i ++ E.drop (i + 1)
end Go.AL
end

section
namespace Go.AL
set_option linter.unusedSimpArgs false
set_option linter.unusedVariables false

theorem Mut.lt {γ : Gh} {w : World} {O : Oid → Option AObj} {W : Nat → Option Nat} {no nw b : Nat} (h : Inv γ w O W no nw) (hm : Mut γ O W b) : b < w.heap.size := by
  rcases hm with ⟨i, x, hx, hb⟩ | ⟨p, n, hp, hb⟩
  · exact (h.objb hx hb).lt
  · exact (h.own p n hp).lt hb
theorem Mut.notImm {γ : Gh} {w : World} {O : Oid → Option AObj} {W : Nat → Option Nat} {no nw b : Nat} (h : Inv γ w O W no nw) {i : Oid} {x : AObj} (hx : O i = some x) (hb : γ.obj i = some b) : ∀ o, ¬ γ.imm b o := (h.objb hx hb).notImm
theorem Inv.frame {γ : Gh} {w w' : World} {O : Oid → Option AObj} {W : Nat → Option Nat} {no nw : Nat} (h : Inv γ w O W no nw) (hs : w.heap.size ≤ w'.heap.size)
    (hi : ∀ b o, γ.imm b o → w'.heap[b]? = w.heap[b]?) (hm : ∀ b, Mut γ O W b → w'.heap[b]? = w.heap[b]?) : Inv γ w' O W no nw := by
  have e : ∀ l, Ext l γ w γ w' := fun l => ⟨fun b o hb => ⟨hb, cell?_heap (hi b o hb)⟩, fun _ _ _ h => h, fun p => OwnStep.refl _⟩
  refine ⟨fun b o hb => Nat.lt_of_lt_of_le (h.imm b o hb) hs, fun i x hx => ?_, h.inj, fun p n hp => ?_, h.ownInj, h.apart, h.freshO, h.freshW, h.amb.mono (e true) hs⟩
  · rcases h.obj i x hx with h1 | ⟨b, hbk, hok⟩
    · exact .inl h1
    · exact .inr ⟨b, hbk, hok.mono (e _) (hm b (.inl ⟨i, x, hx, hbk⟩)) hok.notImm⟩
  · exact (h.own p n hp).mono (fun b hbk => hm b (.inr ⟨p, n, hp, hbk⟩)) (fun b o _ hi => hi)
theorem Inv.froze {γ : Gh} {w : World} {O : Oid → Option AObj} {W : Nat → Option Nat} {no nw : Nat} (h : Inv γ w O W no nw) (b : Nat) (hb : b < w.heap.size) (hm : ¬ Mut γ O W b) :
    Inv { γ with imm := fun c o => γ.imm c o ∨ c = b } w O W no nw ∧ ∀ l, Ext l γ w { γ with imm := fun c o => γ.imm c o ∨ c = b } w := by
  have e : ∀ l, Ext l γ w { γ with imm := fun c o => γ.imm c o ∨ c = b } w := fun l => ⟨fun c o hc => ⟨.inl hc, rfl⟩, fun _ _ _ h => h, fun p => OwnStep.refl _⟩
  refine ⟨⟨fun c o hc => ?_, fun i x hx => ?_, h.inj, fun p n hp => ?_, h.ownInj, h.apart, h.freshO, h.freshW, h.amb.mono (e true) (Nat.le_refl _)⟩, e⟩
  · rcases hc with hc | rfl
    · exact h.imm c o hc
    · exact hb
  · rcases h.obj i x hx with h1 | ⟨c, hbk, hok⟩
    · exact .inl h1
    · refine .inr ⟨c, hbk, hok.mono (e _) rfl fun o ho => ?_⟩
      rcases ho with ho | rfl
      · exact hok.notImm o ho
      · exact hm (.inl ⟨i, x, hx, hbk⟩)
  · refine (h.own p n hp).mono (fun _ _ => rfl) fun c o hbk ho => ?_
    rcases ho with ho | rfl
    · exact ho
    · exact (hm (.inr ⟨p, n, hp, hbk⟩)).elim

theorem PCall.ofBelowK {P : Program} {g : FuncId} {xs : List AVal} {v : AVal}
    (h : ∀ γ w vs, Known w → RepL γ w false xs vs → Calls P g vs.toArray w fun e w' => ∃ u, e = .returned u ∧ Rep γ w' false v u ∧ Go.RowKit.Below w.heap.size w w') : PCall P g xs v :=
  fun σ γ w vs hi hr => (h γ w vs hi.amb.1 hr).mono fun e w' ⟨u, h1, h2, h3⟩ =>
    ⟨u, v, γ, σ, h1, h2, hi.below h3, Evo.below (fun b o hm => hi.imm_lt hm) h3, rfl, rfl⟩
structure Held (w0 : World) (γ : Gh) (w : World) (σ : Sto) (X : Nat → Prop) : Prop where
  inv : Inv γ w σ.O σ.own σ.nobj σ.nown
  ext : Ext false (Gh.top w0) w0 γ w
  below : Go.RowKit.Below w0.heap.size w0 w
  muts : ∀ b, Mut γ σ.O σ.own b → w0.heap.size ≤ b
  apart : ∀ b, X b → w0.heap.size ≤ b ∧ b < w.heap.size ∧ ¬ Mut γ σ.O σ.own b ∧ ∀ o, ¬ γ.imm b o

theorem Held.start (w : World) (hA : Known w) : Held w (Gh.top w) w Sto.empty fun _ => False := by
  refine ⟨Inv.top w hA, Ext.refl _ _ _, Go.RowKit.Below.refl _ _, ?_, fun b h => h.elim⟩
  rintro b (⟨i, x, hx, _⟩ | ⟨p, n, hp, _⟩)
  · cases i <;> cases hx
  · cases hp
theorem Held.out {w0 w w' : World} {γ : Gh} {σ : Sto} {X X' : Nat → Prop} (h : Held w0 γ w σ X) (ho : w'.os = w.os) (ht : w'.tape = w.tape) (hp : w'.output = w.output) (hs : w.heap.size ≤ w'.heap.size)
    (hb : ∀ b, b < w.heap.size → ¬ X b → w'.heap[b]? = w.heap[b]?) (hX : ∀ b, X' b → X b ∨ (w.heap.size ≤ b ∧ b < w'.heap.size)) : Held w0 γ w' σ X' := by
  have h0 := h.below.size
  have himm : ∀ b o, γ.imm b o → w'.heap[b]? = w.heap[b]? := fun b o hi => hb b (h.inv.imm b o hi) fun hx => (h.apart b hx).2.2.2 o hi
  have hmut : ∀ b, Mut γ σ.O σ.own b → w'.heap[b]? = w.heap[b]? := fun b hm => hb b (hm.lt h.inv) fun hx => (h.apart b hx).2.2.1 hm
  refine ⟨h.inv.frame hs himm hmut, h.ext.trans ⟨fun b o hi => ⟨hi, cell?_heap (himm b o hi)⟩, fun _ _ _ h => h, fun p => OwnStep.refl _⟩, ?_, h.muts, fun b hx => ?_⟩
  · exact ⟨ho.trans h.below.os, ht.trans h.below.tape, hp.trans h.below.output, Nat.le_trans h.below.size hs, fun b hlt =>
      (hb b (by omega) (fun hx => by have := (h.apart b hx).1; omega)).trans (h.below.block b hlt)⟩
  · rcases hX b hx with h1 | ⟨h1, h2⟩
    · obtain ⟨a1, a2, a3, a4⟩ := h.apart b h1
      exact ⟨a1, by omega, a3, a4⟩
    · exact ⟨by omega, h2, fun hm => by have := hm.lt h.inv; omega, fun o hi => by have := h.inv.imm b o hi; omega⟩
theorem Held.grow {w0 w w' : World} {γ : Gh} {σ : Sto} {X : Nat → Prop} (h : Held w0 γ w σ X) (hb : Go.RowKit.Below w.heap.size w w') : Held w0 γ w' σ X :=
  h.out hb.os hb.tape hb.output hb.size (fun b hlt _ => hb.block b hlt) fun b hx => .inl hx
theorem Held.call {P : Program} {f : FuncId} {args : List AVal} {Q : AVal → Sto → Prop} {w0 w : World} {γ : Gh} {σ : Sto} {X : Nat → Prop} (h : Held w0 γ w σ X) (hc : ACall P f args σ Q) {vs : List Value} (hr : RepL γ w false args vs) :
    Calls P f vs.toArray w fun e w' => ∃ v r γ' τ, e = .returned v ∧ Rep γ' w' false r v ∧ Q r τ ∧ Held w0 γ' w' τ X ∧ Ext false γ w γ' w' ∧ (∀ b, X b → w'.heap[b]? = w.heap[b]?) ∧ w.heap.size ≤ w'.heap.size := by
  refine (hc γ w vs h.inv hr).mono fun e w' ⟨v, r, γ', τ, h1, h2, h3, h4, h5⟩ => ⟨v, r, γ', τ, h1, h2, h5, ⟨h3, h.ext.trans h4.ext, ?_, fun b hm => ?_, fun b hx => ?_⟩, h4.ext, fun b hx => ?_, h4.size⟩
  · exact ⟨h4.os.trans h.below.os, h4.tape.trans h.below.tape, h4.output.trans h.below.output, Nat.le_trans h.below.size h4.size, fun b hlt =>
      (h4.old b (Nat.lt_of_lt_of_le hlt h.below.size) (fun hm => by have := h.muts b hm; omega)).trans (h.below.block b hlt)⟩
  · rcases h4.mutd b hm with h6 | h6
    · exact h.muts b h6
    · exact Nat.le_trans h.below.size h6
  · obtain ⟨a1, a2, a3, a4⟩ := h.apart b hx
    refine ⟨a1, Nat.lt_of_lt_of_le a2 h4.size, fun hm => ?_, fun o hi => ?_⟩
    · rcases h4.mutd b hm with h6 | h6
      · exact a3 h6
      · omega
    · rcases h4.new b o hi with h6 | h6 | h6
      · exact a4 o h6
      · omega
      · exact a3 h6
  · obtain ⟨a1, a2, a3, a4⟩ := h.apart b hx
    exact h4.old b a2 a3
theorem Held.froze {w0 w : World} {γ : Gh} {σ : Sto} {X X' : Nat → Prop} (h : Held w0 γ w σ X) (b : Nat) (hb : b < w.heap.size) (hm : ¬ Mut γ σ.O σ.own b) (hX : ∀ c, X' c → X c ∧ c ≠ b) :
    Held w0 { γ with imm := fun c o => γ.imm c o ∨ c = b } w σ X' := by
  obtain ⟨h1, h2⟩ := h.inv.froze b hb hm
  refine ⟨h1, h.ext.trans (h2 _), h.below, h.muts, fun c hx => ?_⟩
  obtain ⟨h3, h4⟩ := hX c hx
  obtain ⟨a1, a2, a3, a4⟩ := h.apart c h3
  refine ⟨a1, a2, a3, fun o ho => ?_⟩
  rcases ho with ho | ho
  · exact a4 o ho
  · exact h4 ho
theorem Held.new {w0 w : World} {γ : Gh} {σ : Sto} {X : Nat → Prop} (h : Held w0 γ w σ X) {b : Nat} (hb : w.heap.size ≤ b) : ¬ Mut γ σ.O σ.own b := fun hm => by have := hm.lt h.inv; omega
end Go.AL
end

section
namespace Go.AL
noncomputable section
set_option linter.unusedSimpArgs false
set_option linter.unusedVariables false

def Gh.oneOf (γ : Gh) (k : Nat) : Gh := { imm := γ.imm, obj := fun i => if i = .out 0 then γ.obj (.out k) else none, own := fun _ => .free }

theorem oneO {x : AObj} {i : Oid} {y : AObj} (h : (Sto.one x).O i = some y) : i = .out 0 ∧ y = x := by
  cases i with
  | loc k => cases h
  | out n =>
    simp only [Sto.O, Sto.one] at h
    split at h
    · rename_i e; subst e; cases h; exact ⟨rfl, rfl⟩
    · cases h
theorem Inv.oneOf {γ : Gh} {w : World} {σ : Sto} (hi : Inv γ w σ.O σ.own σ.nobj σ.nown) {k : Nat} {cs : List AVal} (hk : σ.obj k = some (.cells cs)) (h1 : noOutL 0 cs = true) (h2 : noTokL 0 cs = true) :
    ∃ b, γ.obj (.out k) = some b ∧ b < w.heap.size ∧ Inv (γ.oneOf k) w (Sto.one (.cells cs)).O (Sto.one (.cells cs)).own (Sto.one (.cells cs)).nobj (Sto.one (.cells cs)).nown := by
  rcases hi.obj (.out k) _ hk with ⟨_, _, _, h, _⟩ | ⟨b, hb, hok⟩
  · cases h
  refine ⟨b, hb, hok.lt, hi.imm, fun i x hx => ?_, fun i j x y c hx hy _ _ => ?_, fun p n hp => (by cases hp), fun p q n m c hp => (by cases hp), fun i x p n c _ hp => (by cases hp), fun n hn => ?_, fun p _ => rfl, hi.amb⟩
  · obtain ⟨rfl, rfl⟩ := oneO hx
    refine .inr ⟨b, by simp [Gh.oneOf, hb], ?_⟩
    obtain ⟨vs, T, g1, g2, g3, g4⟩ := hok
    exact ⟨vs, T, g1, RepL.closed g2 h1 h2 (fun _ _ h => h), g3, g4⟩
  · obtain ⟨rfl, _⟩ := oneO hx
    obtain ⟨rfl, _⟩ := oneO hy
    rfl
  · have : ¬ n = 0 := by have hn : 1 ≤ n := hn; omega
    simp [Gh.oneOf, this]
theorem oneMut {γ : Gh} {k b : Nat} {x : AObj} (hb : γ.obj (.out k) = some b) {c : Nat} : Mut (γ.oneOf k) (Sto.one x).O (Sto.one x).own c ↔ c = b := by
  constructor
  · rintro (⟨i, y, hy, hc⟩ | ⟨p, n, hp, _⟩)
    · obtain ⟨rfl, _⟩ := oneO hy
      simp only [Gh.oneOf, if_true, hb, Option.some.injEq] at hc
      exact hc.symm
    · cases hp
  · rintro rfl
    exact .inl ⟨.out 0, x, rfl, by simp [Gh.oneOf, hb]⟩
theorem RepL.oneOf {γ : Gh} {w : World} {k : Nat} {rest : List AVal} {vs : List Value} (h : RepL γ w false (.ptr (.out k) 0 :: rest) vs) (h1 : noOutL 0 rest = true) (h2 : noTokL 0 rest = true) : RepL (γ.oneOf k) w false (.ptr (.out 0) 0 :: rest) vs := by
  cases h with
  | cons h t =>
    refine .cons ?_ (RepL.closed t h1 h2 (fun _ _ h => h))
    cases h with
    | ptr hb ho => exact .ptr (by simp [Gh.oneOf, hb]) (.inr rfl)

theorem FCall.ofOne {P : Program} {f : FuncId} {rest cs cs' : List AVal} {v : AVal} (h : ACall P f (.ptr (.out 0) 0 :: rest) (Sto.one (.cells cs)) fun r τ => Wk r v ∧ ∃ x, τ.obj 0 = some (.cells x) ∧ WkL x cs')
    (hr1 : noOutL 0 rest = true) (hr2 : noTokL 0 rest = true) (h1 : noOutL 0 cs = true) (h2 : noTokL 0 cs = true) (h3 : noOutL 0 cs' = true) (h4 : noTokL 0 cs' = true) (hv : v.noOut 0 = true) (hv2 : v.noTok 0 = true)
    {σ : Sto} {k : Nat} (hk : σ.obj k = some (.cells cs)) : FCall P f (.ptr (.out k) 0 :: rest) σ v (σ.set k (.cells cs')) := by
  intro γ w vs hi hr
  obtain ⟨b, hb, hlt, hi0⟩ := hi.oneOf hk h1 h2
  refine (h (γ.oneOf k) w vs hi0 (hr.oneOf hr1 hr2)).mono fun e w' ⟨u, r, γ', τ, he, hrep, hinv, hev, hwk, x, hx, hwx⟩ => ?_
  have hb' : γ'.obj (.out 0) = some b := hev.ext.obj (.out 0) b (.inr rfl) (by simp [Gh.oneOf, hb])
  obtain ⟨b1, hb1, hok⟩ : ∃ b1, γ'.obj (.out 0) = some b1 ∧ objOk γ' w' false b1 (.cells x) := by
    rcases hinv.obj (.out 0) _ hx with ⟨_, _, _, h, _⟩ | h
    · cases h
    · exact h
  obtain rfl : b1 = b := Option.some.inj (hb1.symm.trans hb')
  have hni : ∀ o, ¬ γ'.imm b1 o := hok.notImm
  have hold : ∀ c, c < w.heap.size → c ≠ b1 → w'.heap[c]? = w.heap[c]? := fun c hc hne => hev.old c hc fun hm => hne ((oneMut hb).1 hm)
  have hnew : ∀ c o, c < w.heap.size → γ'.imm c o → γ.imm c o := fun c o hc hi' => by
    rcases hev.new c o hi' with h1 | h1 | h1
    · exact h1
    · omega
    · have := (oneMut hb).1 h1
      subst this
      exact (hni o hi').elim
  have e1 : ∀ l, Ext l γ w { γ with imm := γ'.imm } w' := fun l => ⟨fun c o hc => hev.ext.imm c o hc, fun _ _ _ h => h, fun p => OwnStep.refl _⟩
  have hrv : Rep { γ with imm := γ'.imm } w' false v u := Rep.closed (hwk _ _ _ _ hrep) hv hv2 (fun _ _ h => h)
  have hmutb : Mut γ σ.O σ.own b1 := .inl ⟨.out k, _, hk, hb⟩
  have hset : ∀ {i : Oid} {y : AObj}, (σ.set k (.cells cs')).O i = some y → (i = .out k ∧ y = .cells cs') ∨ (i ≠ .out k ∧ σ.O i = some y) := fun {i y} hy => by
    cases i with
    | loc n => cases hy
    | out n =>
      simp only [Sto.O, Sto.set] at hy
      split at hy
      · rename_i e; subst e; cases hy; exact .inl ⟨rfl, rfl⟩
      · rename_i e; exact .inr ⟨fun e' => e (by cases e'; rfl), hy⟩
  have hhas : ∀ {i : Oid} {y : AObj}, (σ.set k (.cells cs')).O i = some y → ∃ z, σ.O i = some z := fun {i y} hy => by
    rcases hset hy with ⟨rfl, _⟩ | ⟨_, h⟩
    · exact ⟨_, hk⟩
    · exact ⟨_, h⟩
  refine ⟨u, v, { γ with imm := γ'.imm }, _, he, hrv, ?_, ?_, rfl, rfl⟩
  · refine ⟨fun c o hc => hinv.imm c o hc, fun i y hy => ?_, fun i j y z c hy hz hc hd => ?_, fun p n hp => ?_, hi.ownInj, fun i y p n c hy hp hc hd => ?_, hi.freshO, hi.freshW, hinv.amb⟩
    · rcases hset hy with ⟨rfl, rfl⟩ | ⟨hne, hy⟩
      · refine .inr ⟨b1, hb, ?_⟩
        obtain ⟨us, T, g1, g2, g3, g4⟩ := hok
        exact ⟨us, T, g1, RepL.closed (hwx _ _ _ _ g2) h3 h4 (fun _ _ h => h), g3, g4⟩
      · rcases hi.obj i y hy with h1 | ⟨c, hc, hok⟩
        · exact .inl h1
        · have hcb : c ≠ b1 := fun e => hne (hi.inj i (.out k) y _ c hy hk hc (by rw [hb, e]))
          exact .inr ⟨c, hc, hok.mono (e1 _) (hold c hok.lt hcb) (fun o ho => hok.notImm o (hnew c o hok.lt ho))⟩
    · obtain ⟨y', hy'⟩ := hhas hy
      obtain ⟨z', hz'⟩ := hhas hz
      exact hi.inj i j y' z' c hy' hz' hc hd
    · have hok := hi.own p n hp
      exact hok.mono (fun c hc => hold c (hok.lt hc) (fun e => hi.apart (.out k) _ p n c hk hp (by rw [hb, e]) hc)) (fun c o hc ho => hnew c o (hok.lt hc) ho)
    · obtain ⟨y', hy'⟩ := hhas hy
      exact hi.apart i y' p n c hy' hp hc hd
  · refine ⟨hev.os, hev.tape, hev.output, hev.size, fun c hc hm => hold c hc (fun e => hm (by rw [e]; exact hmutb)), e1 false, fun c o hc => ?_, fun c hc => ?_⟩
    · rcases hev.new c o hc with h1 | h1 | h1
      · exact .inl h1
      · exact .inr (.inl h1)
      · have := (oneMut hb).1 h1
        subst this
        exact .inr (.inr hmutb)
    · rcases hc with ⟨i, y, hy, hc⟩ | hc
      · obtain ⟨y', hy'⟩ := hhas hy
        exact .inl (.inl ⟨i, y', hy', hc⟩)
      · exact .inl (.inr hc)
theorem XPan.ofOne {P : Program} {f : FuncId} {rest cs : List AVal} (h : XPan P f (.ptr (.out 0) 0 :: rest) (Sto.one (.cells cs)))
    (hr1 : noOutL 0 rest = true) (hr2 : noTokL 0 rest = true) (h1 : noOutL 0 cs = true) (h2 : noTokL 0 cs = true)
    {σ : Sto} {k : Nat} (hk : σ.obj k = some (.cells cs)) : XPan P f (.ptr (.out k) 0 :: rest) σ := by
  intro γ w vs hi hr
  obtain ⟨b, hb, hlt, hi0⟩ := hi.oneOf hk h1 h2
  refine (h (γ.oneOf k) w vs hi0 (hr.oneOf hr1 hr2)).mono fun e w' ⟨ch, he, hch, hp⟩ => ⟨ch, he, hch, hp.os, hp.tape, hp.output, hp.size, fun c hc hm => hp.old c hc fun hm' => ?_⟩
  have := (oneMut hb).1 hm'
  subst this
  exact hm (.inl ⟨.out k, _, hk, hb⟩)
theorem XPan.args {P : Program} {f : FuncId} {args args' : List AVal} {σ : Sto} (h : XPan P f args σ) (hw : WkL args' args) : XPan P f args' σ :=
  fun γ w vs hi hr => h γ w vs hi (hw γ w false vs hr)
theorem XPan.ofEmpty {P : Program} {f : FuncId} {args : List AVal} (h : XPan P f (sealL 0 args) Sto.empty) (ha : noOutL 0 (sealL 0 args) = true) (σ : Sto) : XPan P f args σ := by
  intro γ w vs hi hr
  have hr0 : RepL (γ.cut 0 0) w false (sealL 0 args) vs := WkL.seal0 ha γ w false vs hr
  have hi0 : Inv (γ.cut 0 0) w Sto.empty.O Sto.empty.own Sto.empty.nobj Sto.empty.nown := Inv.emptyOf hi.imm (cut0_obj γ) (cut0_own γ) hi.amb
  refine (h (γ.cut 0 0) w vs hi0 hr0).mono fun e w' ⟨ch, he, hch, hp⟩ => ⟨ch, he, hch, hp.os, hp.tape, hp.output, hp.size, fun c hc hm => hp.old c hc fun hm' => ?_⟩
  rcases hm' with ⟨i, x, hx, _⟩ | ⟨p, n, hp, _⟩
  · exact top_none i x hx
  · cases hp
end
end Go.AL
end

section
namespace Go.AL
set_option linter.unusedSimpArgs false
set_option linter.unusedVariables false
structure Hold (γ0 : Gh) (w0 : World) (γ : Gh) (w : World) (σ : Sto) (X : Nat → Prop) : Prop where
  inv : Inv γ w σ.O σ.own σ.nobj σ.nown
  ext : Ext false γ0 w0 γ w
  new : ∀ b o, γ.imm b o → γ0.imm b o ∨ w0.heap.size ≤ b
  below : Go.RowKit.Below w0.heap.size w0 w
  muts : ∀ b, Mut γ σ.O σ.own b → w0.heap.size ≤ b
  apart : ∀ b, X b → w0.heap.size ≤ b ∧ b < w.heap.size ∧ ¬ Mut γ σ.O σ.own b ∧ ∀ o, ¬ γ.imm b o
theorem Hold.start {γ : Gh} {w : World} (hi : Inv γ w Sto.empty.O Sto.empty.own Sto.empty.nobj Sto.empty.nown) : Hold γ w γ w Sto.empty fun _ => False := by
  refine ⟨hi, Ext.refl _ _ _, fun _ _ h => .inl h, Go.RowKit.Below.refl _ _, ?_, fun b h => h.elim⟩
  rintro b (⟨i, x, hx, _⟩ | ⟨p, n, hp, _⟩)
  · cases i <;> cases hx
  · cases hp
theorem Hold.known {γ0 γ : Gh} {w0 w : World} {σ : Sto} {X : Nat → Prop} (h : Hold γ0 w0 γ w σ X) : Known w := h.inv.amb.1
theorem Hold.out {γ0 γ : Gh} {w0 w w' : World} {σ : Sto} {X X' : Nat → Prop} (h : Hold γ0 w0 γ w σ X) (ho : w'.os = w.os) (ht : w'.tape = w.tape) (hp : w'.output = w.output) (hs : w.heap.size ≤ w'.heap.size)
    (hb : ∀ b, b < w.heap.size → ¬ X b → w'.heap[b]? = w.heap[b]?) (hX : ∀ b, X' b → X b ∨ (w.heap.size ≤ b ∧ b < w'.heap.size)) : Hold γ0 w0 γ w' σ X' ∧ Ext false γ w γ w' := by
  have h0 := h.below.size
  have himm : ∀ b o, γ.imm b o → w'.heap[b]? = w.heap[b]? := fun b o hi => hb b (h.inv.imm b o hi) fun hx => (h.apart b hx).2.2.2 o hi
  have hmut : ∀ b, Mut γ σ.O σ.own b → w'.heap[b]? = w.heap[b]? := fun b hm => hb b (hm.lt h.inv) fun hx => (h.apart b hx).2.2.1 hm
  have e1 : Ext false γ w γ w' := ⟨fun b o hi => ⟨hi, cell?_heap (himm b o hi)⟩, fun _ _ _ h => h, fun p => OwnStep.refl _⟩
  refine ⟨⟨h.inv.frame hs himm hmut, h.ext.trans e1, h.new, ?_, h.muts, fun b hx => ?_⟩, e1⟩
  · exact ⟨ho.trans h.below.os, ht.trans h.below.tape, hp.trans h.below.output, Nat.le_trans h.below.size hs, fun b hlt =>
      (hb b (by omega) (fun hx => by have := (h.apart b hx).1; omega)).trans (h.below.block b hlt)⟩
  · rcases hX b hx with h1 | ⟨h1, h2⟩
    · obtain ⟨a1, a2, a3, a4⟩ := h.apart b h1
      exact ⟨a1, by omega, a3, a4⟩
    · exact ⟨by omega, h2, fun hm => by have := hm.lt h.inv; omega, fun o hi => by have := h.inv.imm b o hi; omega⟩
theorem Hold.call {P : Program} {f : FuncId} {args : List AVal} {Q : AVal → Sto → Prop} {γ0 γ : Gh} {w0 w : World} {σ : Sto} {X : Nat → Prop} (h : Hold γ0 w0 γ w σ X) (hc : ACall P f args σ Q) {vs : List Value} (hr : RepL γ w false args vs) :
    Calls P f vs.toArray w fun e w' => ∃ v r γ' τ, e = .returned v ∧ Rep γ' w' false r v ∧ Q r τ ∧ Hold γ0 w0 γ' w' τ X ∧ Ext false γ w γ' w' ∧ (∀ b, X b → w'.heap[b]? = w.heap[b]?) ∧ w.heap.size ≤ w'.heap.size := by
  refine (hc γ w vs h.inv hr).mono fun e w' ⟨v, r, γ', τ, h1, h2, h3, h4, h5⟩ => ⟨v, r, γ', τ, h1, h2, h5, ⟨h3, h.ext.trans h4.ext, fun b o hi => ?_, ?_, fun b hm => ?_, fun b hx => ?_⟩, h4.ext, fun b hx => ?_, h4.size⟩
  · rcases h4.new b o hi with h6 | h6 | h6
    · exact h.new b o h6
    · exact .inr (Nat.le_trans h.below.size h6)
    · exact .inr (h.muts b h6)
  · exact ⟨h4.os.trans h.below.os, h4.tape.trans h.below.tape, h4.output.trans h.below.output, Nat.le_trans h.below.size h4.size, fun b hlt =>
      (h4.old b (Nat.lt_of_lt_of_le hlt h.below.size) (fun hm => by have := h.muts b hm; omega)).trans (h.below.block b hlt)⟩
  · rcases h4.mutd b hm with h6 | h6
    · exact h.muts b h6
    · exact Nat.le_trans h.below.size h6
  · obtain ⟨a1, a2, a3, a4⟩ := h.apart b hx
    refine ⟨a1, Nat.lt_of_lt_of_le a2 h4.size, fun hm => ?_, fun o hi => ?_⟩
    · rcases h4.mutd b hm with h6 | h6
      · exact a3 h6
      · omega
    · rcases h4.new b o hi with h6 | h6 | h6
      · exact a4 o h6
      · omega
      · exact a3 h6
  · obtain ⟨a1, a2, a3, a4⟩ := h.apart b hx
    exact h4.old b a2 a3
theorem Hold.pan {P : Program} {f : FuncId} {args : List AVal} {γ0 γ : Gh} {w0 w : World} {σ : Sto} {X : Nat → Prop} (h : Hold γ0 w0 γ w σ X) (hc : XPan P f args σ) {vs : List Value} (hr : RepL γ w false args vs) :
    Calls P f vs.toArray w fun e w' => ∃ u pv, e = .panicked [{ v := .iface u pv, recovered := false }] ∧ Go.RowKit.Below w0.heap.size w0 w' ∧ (∀ b, X b → w'.heap[b]? = w.heap[b]?) ∧ w.heap.size ≤ w'.heap.size := by
  refine (hc γ w vs h.inv hr).mono fun e w' ⟨ch, h1, ⟨u, pv, h2⟩, h3⟩ => ⟨u, pv, by rw [h1, h2], ?_, fun b hx => ?_, h3.size⟩
  · exact ⟨h3.os.trans h.below.os, h3.tape.trans h.below.tape, h3.output.trans h.below.output, Nat.le_trans h.below.size h3.size, fun b hlt =>
      (h3.old b (Nat.lt_of_lt_of_le hlt h.below.size) (fun hm => by have := h.muts b hm; omega)).trans (h.below.block b hlt)⟩
  · obtain ⟨a1, a2, a3, a4⟩ := h.apart b hx
    exact h3.old b a2 a3
theorem Hold.one {γ0 γ : Gh} {w0 w : World} {X : Nat → Prop} (h : Hold γ0 w0 γ w Sto.empty X) {R : Nat} (hR : X R) {cs : List AVal} {vs : List Value} {T : TypeId} (hcell : w.heap[R]? = some (.cells vs.toArray T (0, 0)))
    (hr : RepL γ w false cs vs) (h1 : ∀ v ∈ vs, v.oneCell' = true) (n1 : noOutL 0 cs = true) (n2 : noTokL 0 cs = true) :
    ∃ γ', Hold γ0 w0 γ' w (Sto.one (.cells cs)) (fun b => X b ∧ b ≠ R) ∧ γ'.obj (.out 0) = some R ∧ γ'.imm = γ.imm := by
  obtain ⟨a1, a2, a3, a4⟩ := h.apart R hR
  have hmut : ∀ {b}, Mut { γ with obj := fun i => if i = .out 0 then some R else γ.obj i } (Sto.one (.cells cs)).O (Sto.one (.cells cs)).own b → b = R := fun {b} hm => by
    rcases hm with ⟨i, x, hx, hb⟩ | ⟨p, n, hp, _⟩
    · obtain ⟨rfl, _⟩ := oneO hx
      have hb : (if Oid.out 0 = .out 0 then some R else γ.obj (.out 0)) = some b := hb
      rw [if_pos rfl] at hb
      cases hb; rfl
    · cases hp
  refine ⟨{ γ with obj := fun i => if i = .out 0 then some R else γ.obj i }, ⟨⟨h.inv.imm, fun i x hx => ?_, fun i j x y c hx hy _ _ => ?_, fun p n hp => (by cases hp), fun p q n m c hp => (by cases hp), fun i x p n c _ hp => (by cases hp), fun n hn => ?_, fun p _ => h.inv.freshW p (Nat.zero_le _), h.inv.amb⟩, ?_, h.new, h.below, fun b hm => ?_, fun b hx => ?_⟩, by show (if Oid.out 0 = .out 0 then some R else γ.obj (.out 0)) = some R; rw [if_pos rfl], rfl⟩
  · obtain ⟨rfl, rfl⟩ := oneO hx
    exact .inr ⟨R, by show (if Oid.out 0 = .out 0 then some R else γ.obj (.out 0)) = some R; rw [if_pos rfl], vs, T, hcell, RepL.closed hr n1 n2 (fun _ _ h => h), h1, a4⟩
  · obtain ⟨rfl, _⟩ := oneO hx
    obtain ⟨rfl, _⟩ := oneO hy
    rfl
  · have hne : ¬ n = 0 := by have hn : 1 ≤ n := hn; omega
    show (if Oid.out n = .out 0 then some R else γ.obj (.out n)) = none
    rw [if_neg (fun e => hne (by cases e; rfl))]
    exact h.inv.freshO n (Nat.zero_le _)
  · refine ⟨h.ext.imm, fun i b hl hb => ?_, h.ext.own⟩
    have := h.ext.obj i b hl hb
    cases i with
    | loc k => cases hl with
      | inl e => cases e
      | inr e => cases e
    | out n =>
      have h0 := h.inv.freshO n (Nat.zero_le _)
      rw [this] at h0
      cases h0
  · rw [hmut hm]; exact a1
  · obtain ⟨c1, c2, c3, c4⟩ := h.apart b hx.1
    exact ⟨c1, c2, fun hm => hx.2 (hmut hm), c4⟩
theorem Hold.cell {γ0 γ : Gh} {w0 w : World} {X : Nat → Prop} {cs : List AVal} (h : Hold γ0 w0 γ w (Sto.one (.cells cs)) X) {R : Nat} (hR : γ.obj (.out 0) = some R) :
    ∃ vs T, w.heap[R]? = some (.cells vs.toArray T (0, 0)) ∧ RepL γ w false cs vs := by
  rcases h.inv.obj (.out 0) (.cells cs) rfl with ⟨_, _, _, e, _⟩ | ⟨b, hb, vs, T, g1, g2, _⟩
  · cases e
  · rw [hR] at hb; cases hb
    exact ⟨vs, T, g1, g2⟩
theorem Hold.acall {γ0 γ : Gh} {w0 w : World} {σ : Sto} {X : Nat → Prop} (h : Hold γ0 w0 γ w σ X) {r : AVal} {v : Value} (hr : Rep γ w false r v) {Q : AVal → Sto → Prop} (hq : Q r σ) :
    ∃ v' r' γ' σ', Ending.returned v = .returned v' ∧ Rep γ' w false r' v' ∧ Inv γ' w σ'.O σ'.own σ'.nobj σ'.nown ∧ Evo γ0 w0 Sto.empty.O Sto.empty.own γ' w σ'.O σ'.own ∧ Q r' σ' := by
  refine ⟨v, r, γ, σ, rfl, hr, h.inv, ⟨h.below.os, h.below.tape, h.below.output, h.below.size, fun b hb _ => h.below.block b hb, h.ext, fun b o hi => ?_, fun b hm => .inr (h.muts b hm)⟩, hq⟩
  rcases h.new b o hi with h1 | h1
  · exact .inl h1
  · exact .inr (.inl h1)
end Go.AL
end
