/-
  The abstract layer, part 15: what a call made for itself alone is forgotten behind it: objects that nobody leads to, permissions that nobody bears.
-/
import Derived.Test.YtjdjecaclbdhhaaA14
namespace Go.AL
set_option linter.unusedSimpArgs false
set_option linter.unusedVariables false

theorem blt_iff {a b : Nat} : Nat.blt a b = true ↔ a < b := by rw [Nat.blt_eq]

def Tag.sealT (m : Nat) : Tag → Tag
  | .own p => match Nat.blt p m with | true => .own p | false => .ro
  | t => t

def Tag.below (m : Nat) : Tag → Bool
  | .own p => Nat.blt p m
  | _ => true

def Oid.below (n : Nat) : Oid → Bool
  | .loc _ => true
  | .out k => Nat.blt k n

mutual
def AVal.sealT (m : Nat) : AVal → AVal
  | .agg cs => .agg (sealL m cs)
  | .tuple vs => .tuple (sealL m vs)
  | .slice es s t => .slice (sealL m es) s (t.sealT m)
  | .iptr cs => .iptr (sealL m cs)
  | .func fn f c => .func fn (sealL m f) (sealL m c)
  | .iface t v => .iface t (v.sealT m)
  | v => v
def sealL (m : Nat) : List AVal → List AVal
  | [] => []
  | a :: as => a.sealT m :: sealL m as
end

mutual
/-- It leads to none of the objects from n on. -/
def AVal.noOut (n : Nat) : AVal → Bool
  | .agg cs => noOutL n cs
  | .tuple vs => noOutL n vs
  | .slice es _ _ => noOutL n es
  | .iptr cs => noOutL n cs
  | .arr o _ _ _ => o.below n
  | .mrow k _ => Nat.blt (k + 1) n
  | .ptr o _ => o.below n
  | .map o => o.below n
  | .func _ f c => noOutL n f && noOutL n c
  | .iface _ v => v.noOut n
  | _ => true
def noOutL (n : Nat) : List AVal → Bool
  | [] => true
  | a :: as => a.noOut n && noOutL n as
end

mutual
/-- It bears none of the permissions from m on. -/
def AVal.noTok (m : Nat) : AVal → Bool
  | .agg cs => noTokL m cs
  | .tuple vs => noTokL m vs
  | .slice es _ t => t.below m && noTokL m es
  | .iptr cs => noTokL m cs
  | .func _ f c => noTokL m f && noTokL m c
  | .iface _ v => v.noTok m
  | _ => true
def noTokL (m : Nat) : List AVal → Bool
  | [] => true
  | a :: as => a.noTok m && noTokL m as
end

def AObj.old (n m : Nat) : AObj → Bool
  | .cells cs => noOutL n cs && noTokL m cs
  | .map es => es.all fun x => (x.1.noOut n && x.2.noOut n) && (x.1.noTok m && x.2.noTok m)
  | .siter _ _ => true
  | .buf es _ g => (noOutL n es && noTokL m es) && Nat.blt g n

theorem noOutL_append (n : Nat) : ∀ (as bs : List AVal), noOutL n (as ++ bs) = (noOutL n as && noOutL n bs)
  | [], _ => by simp [noOutL]
  | a :: as, bs => by simp [noOutL, noOutL_append n as bs, Bool.and_assoc]
theorem noTokL_append (n : Nat) : ∀ (as bs : List AVal), noTokL n (as ++ bs) = (noTokL n as && noTokL n bs)
  | [], _ => by simp [noTokL]
  | a :: as, bs => by simp [noTokL, noTokL_append n as bs, Bool.and_assoc]
theorem sealL_append (n : Nat) : ∀ (as bs : List AVal), sealL n (as ++ bs) = sealL n as ++ sealL n bs
  | [], _ => by simp [sealL]
  | a :: as, bs => by simp [sealL, sealL_append n as bs]

theorem noOut_cells (n : Nat) (a : AVal) : noOutL n a.cells = a.noOut n := by cases a <;> simp [AVal.cells, noOutL, AVal.noOut]
theorem noTok_cells (n : Nat) (a : AVal) : noTokL n a.cells = a.noTok n := by cases a <;> simp [AVal.cells, noTokL, AVal.noTok]
theorem seal_cells (n : Nat) (a : AVal) : sealL n a.cells = (a.sealT n).cells := by cases a <;> simp [AVal.cells, sealL, AVal.sealT]

theorem noOut_flat (n : Nat) : ∀ es : List AVal, noOutL n (flat es) = noOutL n es
  | [] => rfl
  | a :: es => by
    have := noOut_flat n es
    simp only [flat, List.flatMap_cons] at this ⊢
    rw [noOutL_append, noOut_cells, this]
    rfl
theorem noTok_flat (n : Nat) : ∀ es : List AVal, noTokL n (flat es) = noTokL n es
  | [] => rfl
  | a :: es => by
    have := noTok_flat n es
    simp only [flat, List.flatMap_cons] at this ⊢
    rw [noTokL_append, noTok_cells, this]
    rfl
theorem seal_flat (n : Nat) : ∀ es : List AVal, sealL n (flat es) = flat (sealL n es)
  | [] => rfl
  | a :: es => by
    have := seal_flat n es
    simp only [flat, List.flatMap_cons, sealL] at this ⊢
    rw [sealL_append, seal_cells, this]
theorem sealL_length (n : Nat) : ∀ es : List AVal, (sealL n es).length = es.length
  | [] => rfl
  | a :: es => by simp [sealL, sealL_length n es]
theorem sealL_mem (n : Nat) : ∀ {es : List AVal} {x : AVal}, x ∈ sealL n es → ∃ y ∈ es, x = y.sealT n
  | a :: es, x, h => by
    simp only [sealL, List.mem_cons] at h
    rcases h with rfl | h
    · exact ⟨a, by simp, rfl⟩
    · obtain ⟨y, hy, e⟩ := sealL_mem n h; exact ⟨y, by simp [hy], e⟩

/-- The ghost, of which objects from n on and permissions from m on are forgotten. -/
def Gh.cut (γ : Gh) (n m : Nat) : Gh :=
  { imm := γ.imm, obj := fun i => match i.below n with | true => γ.obj i | false => none, own := fun p => match Nat.blt p m with | true => γ.own p | false => .free }

theorem cut_obj {γ : Gh} {n m : Nat} {i : Oid} (h : i.below n = true) : (γ.cut n m).obj i = γ.obj i := by simp [Gh.cut, h]
theorem cut_own {γ : Gh} {n m p : Nat} (h : Nat.blt p m = true) : (γ.cut n m).own p = γ.own p := by simp [Gh.cut, h]

theorem tagRow_seal {γ : Gh} {n m : Nat} {t : Tag} {k b off cap s : Nat} (h : tagRow γ t k b off cap s) : tagRow (γ.cut n m) (t.sealT m) k b off cap s := by
  cases t with
  | own p =>
    simp only [Tag.sealT]
    cases hp : Nat.blt p m with
    | true => simp only [tagRow] at h ⊢; rw [cut_own hp]; exact h
    | false => trivial
  | _ => exact h
theorem tagNil_seal {γ : Gh} {n m : Nat} {t : Tag} (h : tagNil γ t) : tagNil (γ.cut n m) (t.sealT m) := by
  cases t with
  | own p =>
    simp only [Tag.sealT]
    cases hp : Nat.blt p m with
    | true => simp only [tagNil] at h ⊢; rw [cut_own hp]; exact h
    | false => trivial
  | _ => exact h
theorem seal_isNil (m : Nat) (t : Tag) : (t.sealT m).isNil = t.isNil := by
  cases t with
  | own p => simp only [Tag.sealT]; cases Nat.blt p m <;> rfl
  | _ => rfl

mutual
theorem Rep.cut {γ : Gh} {w : World} {n m : Nat} : ∀ {l : Bool} {a : AVal} {v : Value}, Rep γ w l a v → (a.sealT m).noOut n = true → Rep (γ.cut n m) w l (a.sealT m) v
  | _, _, _, .undef l v, _ => .undef l v
  | _, _, _, .bool l b, _ => .bool l b
  | _, _, _, .int l k n, _ => .int l k n
  | _, _, _, .str l s, _ => .str l s
  | _, _, _, .agg h h1, e => .agg (RepL.cut h (by simpa [AVal.noOut, AVal.sealT] using e)) h1
  | _, _, _, .tuple h, e => .tuple (RepL.cut h (by simpa [AVal.noOut, AVal.sealT] using e))
  | l, _, _, .sliceRow (es := es) (s := s) (tag := tag) (b := b) (off := off) (cap := cap) h hs hc h1 hn hm ht, e => by
    have e' : noOutL n (sealL m es) = true := by simpa [AVal.noOut, AVal.sealT] using e
    have := Rep.sliceRow (γ := γ.cut n m) (w := w) (l := l) (es := sealL m es) (s := s) (tag := tag.sealT m) (b := b) (off := off) (cap := cap) (by rw [← seal_flat]; exact RepL.cut h (by rw [seal_flat, noOut_flat]; exact e'))
      (fun x hx => by obtain ⟨y, hy, rfl⟩ := sealL_mem m hx; rw [← seal_cells, sealL_length]; exact hs y hy) hc h1 (by rw [sealL_length]; exact hn) hm (by rw [sealL_length]; exact tagRow_seal ht)
    rw [sealL_length] at this
    exact this
  | _, _, _, .sliceNil ht ho, _ => .sliceNil (tagNil_seal ht) (by rw [seal_isNil]; exact ho)
  | _, _, _, .arr hb ho hn h0, e => .arr (by rw [cut_obj (by simpa [AVal.noOut, AVal.sealT] using e)]; exact hb) ho hn h0
  | _, _, _, .mrow (k := k) hc hn hb, e => by
    have e1 : Nat.blt (k + 1) n = true := by simpa [AVal.noOut, AVal.sealT] using e
    have e2 : Nat.blt k n = true := by rw [blt_iff] at e1 ⊢; omega
    exact .mrow (by rw [cut_obj (by simpa [Oid.below] using e1)]; exact hc) hn (fun h => by
      obtain ⟨b, h1, h2⟩ := hb h
      exact ⟨b, h1, by rw [cut_obj (by simpa [Oid.below] using e2)]; exact h2⟩)
  | _, _, _, .iptr h h1 hc, e => .iptr (RepL.cut h (by simpa [AVal.noOut, AVal.sealT] using e)) h1 hc
  | _, _, _, .ptr hb ho, e => .ptr (by rw [cut_obj (by simpa [AVal.noOut, AVal.sealT] using e)]; exact hb) ho
  | _, _, _, .nilptr l, _ => .nilptr l
  | _, _, _, .map hb ho, e => .map (by rw [cut_obj (by simpa [AVal.noOut, AVal.sealT] using e)]; exact hb) ho
  | _, _, _, .nilmap l, _ => .nilmap l
  | _, _, _, .func hf hc, e => by
    simp only [AVal.noOut, AVal.sealT, Bool.and_eq_true] at e
    exact .func (RepL.cut hf e.1) (RepL.cut hc e.2)
  | _, _, _, .nilfunc l, _ => .nilfunc l
  | _, _, _, .iface h, e => .iface (Rep.cut h (by simpa [AVal.noOut, AVal.sealT] using e))
  | _, _, _, .nilIface l, _ => .nilIface l
theorem RepL.cut {γ : Gh} {w : World} {n m : Nat} : ∀ {l : Bool} {as : List AVal} {vs : List Value}, RepL γ w l as vs → noOutL n (sealL m as) = true → RepL (γ.cut n m) w l (sealL m as) vs
  | _, _, _, .nil l, _ => .nil l
  | _, _, _, .cons h t, e => by
    simp only [sealL, noOutL, Bool.and_eq_true] at e
    exact .cons (Rep.cut h e.1) (RepL.cut t e.2)
end

mutual
theorem seal_noTok {m : Nat} : ∀ a : AVal, a.noTok m = true → a.sealT m = a
  | .agg cs, h => by simp only [AVal.sealT]; rw [sealL_noTok cs (by simpa [AVal.noTok] using h)]
  | .tuple cs, h => by simp only [AVal.sealT]; rw [sealL_noTok cs (by simpa [AVal.noTok] using h)]
  | .slice es s t, h => by
    simp only [AVal.noTok, Bool.and_eq_true] at h
    simp only [AVal.sealT]
    rw [sealL_noTok es h.2]
    cases t with
    | own p => simp only [Tag.below] at h; simp [Tag.sealT, h.1]
    | _ => rfl
  | .iptr cs, h => by simp only [AVal.sealT]; rw [sealL_noTok cs (by simpa [AVal.noTok] using h)]
  | .func fn f c, h => by
    simp only [AVal.noTok, Bool.and_eq_true] at h
    simp only [AVal.sealT]
    rw [sealL_noTok f h.1, sealL_noTok c h.2]
  | .iface t v, h => by simp only [AVal.sealT]; rw [seal_noTok v (by simpa [AVal.noTok] using h)]
  | .undef, _ => rfl
  | .bool _, _ => rfl
  | .int _ _, _ => rfl
  | .str _, _ => rfl
  | .arr _ _ _ _, _ => rfl
  | .mrow _ _, _ => rfl
  | .ptr _ _, _ => rfl
  | .nilptr, _ => rfl
  | .map _, _ => rfl
  | .nilmap, _ => rfl
  | .nilfunc, _ => rfl
  | .nilIface, _ => rfl
theorem sealL_noTok {m : Nat} : ∀ as : List AVal, noTokL m as = true → sealL m as = as
  | [], _ => rfl
  | a :: as, h => by
    simp only [noTokL, Bool.and_eq_true] at h
    simp only [sealL]
    rw [seal_noTok a h.1, sealL_noTok as h.2]
end

/-- What reads in a ghost without them bears none. -/
theorem below_of {γ : Gh} {n : Nat} (hO : ∀ k, n ≤ k → γ.obj (.out k) = none) {o : Oid} {b : Nat} (h : γ.obj o = some b) : o.below n = true := by
  cases o with
  | loc k => rfl
  | out k =>
    simp only [Oid.below]
    rcases Nat.lt_or_ge k n with hk | hk
    · exact blt_iff.2 hk
    · rw [hO k hk] at h; cases h

mutual
theorem Rep.old {γ : Gh} {w : World} {n m : Nat} (hO : ∀ k, n ≤ k → γ.obj (.out k) = none) (hW : ∀ p, m ≤ p → γ.own p = .free) : ∀ {l : Bool} {a : AVal} {v : Value}, Rep γ w l a v → a.noOut n = true ∧ a.noTok m = true
  | _, _, _, .undef l v => ⟨rfl, rfl⟩
  | _, _, _, .bool l b => ⟨rfl, rfl⟩
  | _, _, _, .int l k n => ⟨rfl, rfl⟩
  | _, _, _, .str l s => ⟨rfl, rfl⟩
  | _, _, _, .agg h h1 => by simpa [AVal.noOut, AVal.noTok] using RepL.old hO hW h
  | _, _, _, .tuple h => by simpa [AVal.noOut, AVal.noTok] using RepL.old hO hW h
  | _, _, _, .sliceRow (es := es) (tag := tag) h hs hc h1 hn hm ht => by
    have := RepL.old hO hW h
    rw [noOut_flat, noTok_flat] at this
    simp only [AVal.noOut, AVal.noTok, Bool.and_eq_true]
    refine ⟨this.1, ?_, this.2⟩
    cases tag with
    | own p =>
      simp only [Tag.below]
      rcases Nat.lt_or_ge p m with hp | hp
      · exact blt_iff.2 hp
      · simp only [tagRow, hW p hp] at ht; exact ht.elim
    | _ => rfl
  | _, _, _, .sliceNil (tag := tag) ht ho => by
    simp only [AVal.noOut, AVal.noTok, noOutL, noTokL, Bool.and_true, true_and]
    cases tag with
    | own p =>
      simp only [Tag.below]
      rcases Nat.lt_or_ge p m with hp | hp
      · exact blt_iff.2 hp
      · simp only [tagNil, hW p hp] at ht; exact ht.elim
    | _ => rfl
  | _, _, _, .arr hb ho hn h0 => ⟨below_of hO hb, rfl⟩
  | _, _, _, .mrow hc hn hb => ⟨by have := below_of hO hc; simpa [AVal.noOut, Oid.below] using this, rfl⟩
  | _, _, _, .iptr h h1 hc => by simpa [AVal.noOut, AVal.noTok] using RepL.old hO hW h
  | _, _, _, .ptr hb ho => ⟨below_of hO hb, rfl⟩
  | _, _, _, .nilptr l => ⟨rfl, rfl⟩
  | _, _, _, .map hb ho => ⟨below_of hO hb, rfl⟩
  | _, _, _, .nilmap l => ⟨rfl, rfl⟩
  | _, _, _, .func hf hc => by
    have h1 := RepL.old hO hW hf
    have h2 := RepL.old hO hW hc
    simp [AVal.noOut, AVal.noTok, h1, h2]
  | _, _, _, .nilfunc l => ⟨rfl, rfl⟩
  | _, _, _, .iface h => by simpa [AVal.noOut, AVal.noTok] using Rep.old hO hW h
  | _, _, _, .nilIface l => ⟨rfl, rfl⟩
theorem RepL.old {γ : Gh} {w : World} {n m : Nat} (hO : ∀ k, n ≤ k → γ.obj (.out k) = none) (hW : ∀ p, m ≤ p → γ.own p = .free) : ∀ {l : Bool} {as : List AVal} {vs : List Value}, RepL γ w l as vs → noOutL n as = true ∧ noTokL m as = true
  | _, _, _, .nil l => ⟨rfl, rfl⟩
  | _, _, _, .cons h t => by
    have h1 := Rep.old hO hW h
    have h2 := RepL.old hO hW t
    simp [noOutL, noTokL, h1, h2]
end

theorem objOk.old {γ : Gh} {w : World} {n m : Nat} (hO : ∀ k, n ≤ k → γ.obj (.out k) = none) (hW : ∀ p, m ≤ p → γ.own p = .free) {l : Bool} {b : Nat} {x : AObj} (h : objOk γ w l b x) : x.old n m = true := by
  cases x with
  | cells cs =>
    obtain ⟨vs, T, _, h2, _⟩ := h
    have := RepL.old hO hW h2
    simp [AObj.old, this]
  | map es =>
    obtain ⟨ents, c, _, h2, _⟩ := h
    simp only [AObj.old, List.all_eq_true, Bool.and_eq_true]
    intro y hy
    obtain ⟨i, hi⟩ := List.getElem?_of_mem hy
    have hlt : i < ents.toList.length := by rw [← h2.1]; exact (List.getElem?_eq_some_iff.1 hi).1
    have := h2.2 i y _ hi (List.getElem?_eq_getElem hlt)
    have k1 := Rep.old hO hW this.1
    have k2 := Rep.old hO hW this.2
    exact ⟨⟨k1.1, k2.1⟩, k1.2, k2.2⟩
  | siter s pos => rfl
  | buf es s g =>
    obtain ⟨vs, junk, T, cap, _, h2, _, _, h5, _⟩ := h
    have := RepL.old hO hW h2
    rw [noOut_flat, noTok_flat] at this
    have hg := below_of hO h5
    simp only [Oid.below] at hg
    simp [AObj.old, this, hg]

theorem objOk.cut {γ : Gh} {w : World} {n m : Nat} {l : Bool} {b : Nat} {x : AObj} (h : objOk γ w l b x) (ho : x.old n m = true) : objOk (γ.cut n m) w l b x := by
  cases x with
  | cells cs =>
    obtain ⟨vs, T, h1, h2, h3, h4⟩ := h
    simp only [AObj.old, Bool.and_eq_true] at ho
    have e := sealL_noTok cs ho.2
    have := RepL.cut (n := n) (m := m) h2 (by rw [e]; exact ho.1)
    rw [e] at this
    exact ⟨vs, T, h1, this, h3, h4⟩
  | map es =>
    obtain ⟨ents, c, h1, h2, h3, h4, h5⟩ := h
    simp only [AObj.old, List.all_eq_true, Bool.and_eq_true] at ho
    refine ⟨ents, c, h1, ⟨h2.1, fun i a e ha he => ?_⟩, h3, h4, h5⟩
    obtain ⟨⟨k1, k2⟩, k3, k4⟩ := ho a (List.mem_of_getElem? ha)
    obtain ⟨g1, g2⟩ := h2.2 i a e ha he
    have e1 := seal_noTok a.1 k3
    have e2 := seal_noTok a.2 k4
    have r1 := Rep.cut (n := n) (m := m) g1 (by rw [e1]; exact k1)
    have r2 := Rep.cut (n := n) (m := m) g2 (by rw [e2]; exact k2)
    rw [e1] at r1
    rw [e2] at r2
    exact ⟨r1, r2⟩
  | siter s pos => exact h
  | buf es s g =>
    obtain ⟨vs, junk, T, cap, h1, h2, h3, h4, h5, h6, h7, h8, h9⟩ := h
    simp only [AObj.old, Bool.and_eq_true] at ho
    have e := sealL_noTok (flat es) (by rw [noTok_flat]; exact ho.1.2)
    have := RepL.cut (n := n) (m := m) h2 (by rw [e, noOut_flat]; exact ho.1.1)
    rw [e] at this
    exact ⟨vs, junk, T, cap, h1, this, h3, h4, by rw [cut_obj (by simpa [Oid.below] using ho.2)]; exact h5, h6, h7, h8, h9⟩

/-- A store, of which objects from n on and permissions from m on are forgotten. -/
def Sto.cut (σ : Sto) (n m : Nat) : Sto :=
  { nobj := n, obj := fun i => if i < n then σ.obj i else none, nown := m, own := fun p => if p < m then σ.own p else none }

/-- WHAT NOBODY LEADS TO IS FORGOTTEN. -/
theorem ACall.gc {P : Program} {f : FuncId} {args : List AVal} {σ : Sto} {Q : AVal → Sto → Prop} (h : ACall P f args σ Q) (n m : Nat) (hn : σ.nobj ≤ n) (hm : σ.nown ≤ m)
    (hQ : ∀ r τ, Q r τ → (r.sealT m).noOut n = true ∧ ∀ i x, i < n → τ.obj i = some x → (i < σ.nobj ∧ σ.obj i = some x) ∨ x.old n m = true) :
    ACall P f args σ fun r τ => ∃ r0 τ0, Q r0 τ0 ∧ r = r0.sealT m ∧ τ = τ0.cut n m := by
  intro γ w vs hi hr
  refine (h γ w vs hi hr).mono fun e w' ⟨v, r, γ', σ', he, hrep, hinv, hev, hq⟩ => ?_
  obtain ⟨hout, hobj⟩ := hQ r σ' hq
  have hO : ∀ i x, (σ'.cut n m).O i = some x → σ'.O i = some x ∧ i.below n = true := by
    intro i x hx
    cases i with
    | loc k => cases hx
    | out k =>
      simp only [Sto.O, Sto.cut] at hx
      split at hx
      · rename_i hk; exact ⟨hx, blt_iff.2 hk⟩
      · cases hx
  have hW : ∀ p k, (σ'.cut n m).own p = some k → σ'.own p = some k ∧ Nat.blt p m = true := by
    intro p k hx
    simp only [Sto.cut] at hx
    split at hx
    · rename_i hk; exact ⟨hx, blt_iff.2 hk⟩
    · cases hx
  refine ⟨v, r.sealT m, γ'.cut n m, σ'.cut n m, he, Rep.cut hrep hout, ?_, ?_, r, σ', hq, rfl, rfl⟩
  · refine ⟨hinv.imm, fun i x hx => ?_, fun i j x y b hx hy hbi hbj => ?_, fun p k hp => ?_, fun p q a b c hp hq' hbp hbq => ?_, fun i x p k b hx hp hbi hbp => ?_, fun k hk => ?_, fun p hp => ?_⟩
    · obtain ⟨h1, h2⟩ := hO i x hx
      have hold : x.old n m = true := by
        cases i with
        | loc k => cases h1
        | out k =>
          rcases hobj k x (blt_iff.1 h2) h1 with ⟨h3, h4⟩ | h3
          · rcases hi.obj (.out k) x h4 with ⟨j, s, g1, g2, g3, g4⟩ | ⟨b0, _, hok0⟩
            · subst g2
              have := below_of (n := n) (fun q hq => hi.freshO q (by omega)) g4
              simpa [AObj.old, noOutL, noTokL, Oid.below] using this
            · exact hok0.old (fun q hq => hi.freshO q (by omega)) (fun q hq => hi.freshW q (by omega))
          · exact h3
      rcases hinv.obj i x h1 with ⟨j, s, g1, g2, g3, g4⟩ | ⟨b, hb, hok⟩
      · subst g1; subst g2
        simp only [AObj.old, Bool.and_eq_true] at hold
        exact .inl ⟨j, s, rfl, rfl, by rw [cut_obj h2]; exact g3, by rw [cut_obj (by simpa [Oid.below] using hold.2)]; exact g4⟩
      · exact .inr ⟨b, by rw [cut_obj h2]; exact hb, hok.cut hold⟩
    · obtain ⟨h1, h2⟩ := hO i x hx
      obtain ⟨h3, h4⟩ := hO j y hy
      rw [cut_obj h2] at hbi
      rw [cut_obj h4] at hbj
      exact hinv.inj i j x y b h1 h3 hbi hbj
    · obtain ⟨h1, h2⟩ := hW p k hp
      rw [cut_own h2]
      exact (hinv.own p k h1).mono (fun _ _ => rfl) (fun _ _ _ h => h)
    · obtain ⟨h1, h2⟩ := hW p a hp
      obtain ⟨h3, h4⟩ := hW q b hq'
      rw [cut_own h2] at hbp
      rw [cut_own h4] at hbq
      exact hinv.ownInj p q a b c h1 h3 hbp hbq
    · obtain ⟨h1, h2⟩ := hO i x hx
      obtain ⟨h3, h4⟩ := hW p k hp
      rw [cut_obj h2] at hbi
      rw [cut_own h4] at hbp
      exact hinv.apart i x p k b h1 h3 hbi hbp
    · have hk : n ≤ k := hk
      have : Nat.blt k n = false := by
        cases hb : Nat.blt k n with
        | true => have := blt_iff.1 hb; omega
        | false => rfl
      simp [Gh.cut, Oid.below, this]
    · have hk : m ≤ p := hp
      have : Nat.blt p m = false := by
        cases hb : Nat.blt p m with
        | true => have := blt_iff.1 hb; omega
        | false => rfl
      simp [Gh.cut, this]
  · refine ⟨hev.os, hev.tape, hev.output, hev.size, hev.old, ⟨hev.ext.imm, fun i b hl hb => ?_, fun p => ?_⟩, hev.new, fun b hb => hev.mutd b ?_⟩
    · have : i.below n = true := below_of (n := n) (fun k hk => hi.freshO k (by omega)) hb
      rw [cut_obj this]
      exact hev.ext.obj i b hl hb
    · cases hp : Nat.blt p m with
      | true => rw [cut_own hp]; exact hev.ext.own p
      | false =>
        have hge : m ≤ p := by
          rcases Nat.lt_or_ge p m with hlt | hge
          · rw [blt_iff.2 hlt] at hp; cases hp
          · exact hge
        rw [hi.freshW p (by omega)]
        trivial
    · rcases hb with ⟨i, x, hx, hbi⟩ | ⟨p, k, hp, hbp⟩
      · obtain ⟨h1, h2⟩ := hO i x hx
        rw [cut_obj h2] at hbi
        exact .inl ⟨i, x, h1, hbi⟩
      · obtain ⟨h1, h2⟩ := hW p k hp
        rw [cut_own h2] at hbp
        exact .inr ⟨p, k, h1, hbp⟩

/-- What a store says beyond its numbers is nothing. -/
theorem Inv.cutSto {γ : Gh} {w : World} {σ : Sto} (hi : Inv γ w σ.O σ.own σ.nobj σ.nown) : σ.cut σ.nobj σ.nown = σ := by
  cases σ with
  | mk no ob nw ow =>
    simp only [Sto.cut, Sto.mk.injEq, true_and]
    refine ⟨?_, ?_⟩
    · funext i
      split
      · rfl
      · rename_i h
        cases hx : ob i with
        | none => rfl
        | some x =>
          rcases hi.obj (.out i) x hx with ⟨j, s, g1, g2, g3, g4⟩ | ⟨b, hb, _⟩
          · cases g1
            have h : no ≤ i := by simpa using h
            rw [hi.freshO (i + 1) (Nat.le_succ_of_le h)] at g4
            cases g4
          · rw [hi.freshO i (by simpa using h)] at hb
            cases hb
    · funext p
      split
      · rfl
      · rename_i h
        cases hx : ow p with
        | none => rfl
        | some k =>
          have := hi.own p k hx
          rw [hi.freshW p (by simpa using h)] at this
          exact this.elim

/-- A call that leaves nothing behind but its answer. -/
theorem ACall.shutAt {P : Program} {f : FuncId} {args : List AVal} {σ : Sto} {Q : AVal → Sto → Prop} (h : ACall P f args σ Q) {v : AVal}
    (hQ : ∀ r τ, Q r τ → r.sealT σ.nown = v ∧ v.noOut σ.nobj = true ∧ (∀ i, i < σ.nobj → τ.obj i = σ.obj i) ∧ ∀ p, p < σ.nown → τ.own p = σ.own p) :
    ACall P f args σ fun r τ => r = v ∧ τ = σ := by
  intro γ w vs hi hr
  refine (h.gc σ.nobj σ.nown (Nat.le_refl _) (Nat.le_refl _) (fun r τ hq => ?_) γ w vs hi hr).mono fun e w' ⟨v', r, γ', σ', he, hrep, hinv, hev, r0, τ0, hq, e1, e2⟩ => ⟨v', r, γ', σ', he, hrep, hinv, hev, ?_, ?_⟩
  · obtain ⟨h1, h2, h3, h4⟩ := hQ r τ hq
    rw [h1]
    refine ⟨h2, fun i x hx hτ => .inl ⟨hx, ?_⟩⟩
    rw [← h3 i hx]; exact hτ
  · rw [e1, (hQ r0 τ0 hq).1]
  · obtain ⟨_, _, h3, h4⟩ := hQ r0 τ0 hq
    have key : τ0.cut σ.nobj σ.nown = σ.cut σ.nobj σ.nown := by
      unfold Sto.cut
      congr 1
      · funext i
        split
        · rename_i hlt; exact h3 i hlt
        · rfl
      · funext p
        split
        · rename_i hlt; exact h4 p hlt
        · rfl
    exact e2.trans (key.trans hi.cutSto)

/-! ### What is said less exactly -/

def Wk (a b : AVal) : Prop := ∀ (γ : Gh) (w : World) (l : Bool) (v : Value), Rep γ w l a v → Rep γ w l b v
def WkL (as bs : List AVal) : Prop := ∀ (γ : Gh) (w : World) (l : Bool) (vs : List Value), RepL γ w l as vs → RepL γ w l bs vs

theorem Wk.refl (a : AVal) : Wk a a := fun _ _ _ _ h => h
theorem WkL.refl (a : List AVal) : WkL a a := fun _ _ _ _ h => h
theorem WkL.cons {a b : AVal} {as bs : List AVal} (h : Wk a b) (t : WkL as bs) : WkL (a :: as) (b :: bs) := fun γ w l vs hr => by
  cases hr with
  | cons h1 h2 => exact .cons (h _ _ _ _ h1) (t _ _ _ _ h2)
theorem Wk.agg {as bs : List AVal} (h : WkL as bs) : Wk (.agg as) (.agg bs) := fun γ w l v hr => by
  cases hr with
  | agg h1 h2 => exact .agg (h _ _ _ _ h1) h2
theorem Wk.tuple {as bs : List AVal} (h : WkL as bs) : Wk (.tuple as) (.tuple bs) := fun γ w l v hr => by
  cases hr with
  | tuple h1 => exact .tuple (h _ _ _ _ h1)
theorem Wk.ro (es : List AVal) (s : Nat) (t : Tag) : Wk (.slice es s t) (.slice es s .ro) := fun γ w l v hr => by
  cases hr with
  | sliceRow hr hs hc h1 hn hm ht => exact .sliceRow hr hs hc h1 hn hm trivial
  | sliceNil ht ho => exact .sliceNil trivial (.inr rfl)
theorem Wk.nil (s s' : Nat) (t : Tag) : Wk (.slice [] s t) (.slice [] s' .ro) := fun γ w l v hr => by
  generalize he : ([] : List AVal) = es at hr
  cases hr with
  | sliceRow hr hs hc h1 hn hm ht =>
    subst he
    exact .sliceRow hr (fun _ h => by cases h) hc h1 hn hm trivial
  | sliceNil ht ho => exact .sliceNil trivial (.inr rfl)

theorem ACall.wk {P : Program} {f : FuncId} {args : List AVal} {σ : Sto} {Q Q' : AVal → Sto → Prop} (h : ACall P f args σ Q) (hQ : ∀ r τ, Q r τ → ∃ r', Wk r r' ∧ Q' r' τ) : ACall P f args σ Q' :=
  fun γ w vs hi hr => (h γ w vs hi hr).mono fun _ _ ⟨v, r, γ', σ', h1, h2, h3, h4, h5⟩ => by
    obtain ⟨r', h6, h7⟩ := hQ r σ' h5
    exact ⟨v, r', γ', σ', h1, h6 _ _ _ _ h2, h3, h4, h7⟩

theorem ACall.args {P : Program} {f : FuncId} {args args' : List AVal} {σ : Sto} {Q : AVal → Sto → Prop} (h : ACall P f args σ Q) (hw : WkL args' args) : ACall P f args' σ Q :=
  fun γ w vs hi hr => h γ w vs hi (hw _ _ _ _ hr)

/-- A call that leaves nothing behind but its answer, said less exactly. -/
theorem ACall.pure {P : Program} {f : FuncId} {args : List AVal} {σ : Sto} {Q : AVal → Sto → Prop} (h : ACall P f args σ Q) {v : AVal} (hv : v.noOut σ.nobj = true) (hv2 : v.noTok σ.nown = true)
    (hQ : ∀ r τ, Q r τ → Wk r v ∧ (∀ i, i < σ.nobj → τ.obj i = σ.obj i) ∧ ∀ p, p < σ.nown → τ.own p = σ.own p) : ACall P f args σ fun r τ => r = v ∧ τ = σ := by
  refine (h.wk (Q' := fun r τ => r = v ∧ (∀ i, i < σ.nobj → τ.obj i = σ.obj i) ∧ ∀ p, p < σ.nown → τ.own p = σ.own p) (fun r τ hq => ?_)).shutAt (fun r τ hq => ?_)
  · obtain ⟨h1, h2, h3⟩ := hQ r τ hq
    exact ⟨v, h1, rfl, h2, h3⟩
  · obtain ⟨rfl, h2, h3⟩ := hq
    exact ⟨seal_noTok r hv2, hv, h2, h3⟩

/-! ### A contract over the empty store serves every store -/

theorem WkL.seal0 : ∀ {as : List AVal}, noOutL 0 (sealL 0 as) = true → ∀ (γ : Gh) (w : World) (l : Bool) (vs : List Value), RepL γ w l as vs → RepL (γ.cut 0 0) w l (sealL 0 as) vs :=
  fun h _ _ _ _ hr => RepL.cut hr h

theorem blt_zero (n : Nat) : Nat.blt n 0 = false := by
  cases h : Nat.blt n 0 with
  | false => rfl
  | true => have := blt_iff.1 h; omega
theorem cut0_obj (γ : Gh) (n : Nat) : (γ.cut 0 0).obj (.out n) = none := by simp [Gh.cut, Oid.below, blt_zero]
theorem cut0_own (γ : Gh) (p : Nat) : (γ.cut 0 0).own p = .free := by simp [Gh.cut, blt_zero]

/-- WHAT IS SO OVER THE EMPTY STORE IS SO OVER EVERY STORE: a call that is handed nothing of the store leaves it alone. -/
theorem ACall.ofEmpty {P : Program} {f : FuncId} {args : List AVal} {Q : AVal → Sto → Prop} {v : AVal} (h : ACall P f (sealL 0 args) Sto.empty Q) (ha : noOutL 0 (sealL 0 args) = true) (hv : v.noOut 0 = true) (hv2 : v.noTok 0 = true)
    (hQ : ∀ r τ, Q r τ → Wk r v) (σ : Sto) : ACall P f args σ fun r τ => r = v ∧ τ = σ := by
  intro γ w vs hi hr
  have hr0 : RepL (γ.cut 0 0) w false (sealL 0 args) vs := WkL.seal0 ha γ w false vs hr
  have hi0 : Inv (γ.cut 0 0) w Sto.empty.O Sto.empty.own Sto.empty.nobj Sto.empty.nown := by
    refine ⟨hi.imm, fun i x hx => (top_none i x hx).elim, fun i j x y b hx => (top_none i x hx).elim, fun p n hp => (by cases hp), fun p q n m b hp => (by cases hp), fun i x p n b hx => (top_none i x hx).elim, fun n _ => ?_, fun p _ => ?_⟩
    · exact cut0_obj γ n
    · exact cut0_own γ p
  refine (h (γ.cut 0 0) w vs hi0 hr0).mono fun e w' ⟨u, r, γ', τ, he, hrep, hinv, hev, hq⟩ => ?_
  have hmut : ∀ b, ¬ Mut (γ.cut 0 0) Sto.empty.O Sto.empty.own b := fun b hb => by
    rcases hb with ⟨i, x, hx, _⟩ | ⟨p, n, hp, _⟩
    · exact top_none i x hx
    · cases hp
  have hold : ∀ b, b < w.heap.size → w'.heap[b]? = w.heap[b]? := fun b hb => hev.old b hb (hmut b)
  have hnew : ∀ b o, b < w.heap.size → γ'.imm b o → γ.imm b o := fun b o hb hi' => by
    rcases hev.new b o hi' with h1 | h1 | h1
    · exact h1
    · omega
    · exact (hmut b h1).elim
  have e1 : ∀ l, Ext l γ w { γ with imm := γ'.imm } w' := fun l => ⟨fun b o hb => hev.ext.imm b o hb, fun _ _ _ h => h, fun p => OwnStep.refl _⟩
  have hrv : Rep γ' w' false v u := hQ r τ hq _ _ _ _ hrep
  have hrc : Rep (γ'.cut 0 0) w' false v u := by
    have := Rep.cut (n := 0) (m := 0) hrv (by rw [seal_noTok v hv2]; exact hv)
    rwa [seal_noTok v hv2] at this
  have e2 : Ext false (γ'.cut 0 0) w' { γ with imm := γ'.imm } w' := ⟨fun b o hb => ⟨hb, rfl⟩, (fun i b hl hb => by
    cases i with
    | loc k => simp [Oid.isOut] at hl
    | out k => rw [cut0_obj] at hb; cases hb), fun p => (by rw [cut0_own]; trivial)⟩
  refine ⟨u, v, { γ with imm := γ'.imm }, σ, he, Rep.mono e2 hrc, ?_, ?_, rfl, rfl⟩
  · refine ⟨fun b o hb => ?_, fun i x hx => ?_, hi.inj, fun p n hp => ?_, hi.ownInj, hi.apart, hi.freshO, hi.freshW⟩
    · exact hinv.imm b o hb
    · rcases hi.obj i x hx with h1 | ⟨b, hb, hok⟩
      · exact .inl h1
      exact .inr ⟨b, hb, hok.mono (e1 _) (hold b hok.lt) (fun o ho => hok.notImm o (hnew b o hok.lt ho))⟩
    · have hok := hi.own p n hp
      exact hok.mono (fun b hb => hold b (hok.lt hb)) (fun b o hb ho => hnew b o (hok.lt hb) ho)
  · refine ⟨hev.os, hev.tape, hev.output, hev.size, fun b hb _ => hold b hb, e1 false, fun b o hb => ?_, fun b hb => .inl hb⟩
    rcases hev.new b o hb with h1 | h1 | h1
    · exact .inl h1
    · exact .inr (.inl h1)
    · exact (hmut b h1).elim

theorem PCall.ofEmpty {P : Program} {f : FuncId} {args : List AVal} {Q : AVal → Sto → Prop} {v : AVal} (h : ACall P f (sealL 0 args) Sto.empty Q) (ha : noOutL 0 (sealL 0 args) = true) (hv : v.noOut 0 = true) (hv2 : v.noTok 0 = true)
    (hQ : ∀ r τ, Q r τ → Wk r v) : PCall P f args v := fun σ => h.ofEmpty ha hv hv2 hQ σ
/-! ### Elements said less exactly -/
theorem WkL.append : ∀ {as as' : List AVal}, as.length = as'.length → WkL as as' → ∀ {bs bs' : List AVal}, WkL bs bs' → WkL (as ++ bs) (as' ++ bs') := by
  intro as as' hl h bs bs' k γ w l vs hr
  have h1 := RepL.split hr
  have := RepL.append (k _ _ _ _ h1.2) (h _ _ _ _ h1.1)
  rwa [List.take_append_drop] at this
theorem WkL.flat {g : AVal → AVal} : ∀ {es : List AVal}, (∀ e ∈ es, WkL e.cells (g e).cells ∧ (g e).cells.length = e.cells.length) → WkL (AL.flat es) (AL.flat (es.map g))
  | [], _ => .refl _
  | e :: es, h => by
    simp only [AL.flat, List.map_cons, List.flatMap_cons]
    have h1 := h e (by simp)
    exact WkL.append h1.2.symm h1.1 (WkL.flat (es := es) fun x hx => h x (by simp [hx]))
theorem Wk.elems {g : AVal → AVal} {es : List AVal} {s : Nat} {t : Tag} (h : ∀ e ∈ es, WkL e.cells (g e).cells ∧ (g e).cells.length = e.cells.length) : Wk (.slice es s t) (.slice (es.map g) s .ro) := fun γ w l v hr => by
  cases hr with
  | sliceRow hr hs hc h1 hn hm ht =>
    have := Rep.sliceRow (γ := γ) (w := w) (l := l) (tag := .ro) (es := es.map g) (WkL.flat h _ _ _ _ hr) (fun e he => by
      obtain ⟨x, hx, rfl⟩ := List.mem_map.1 he
      rw [(h x hx).2]; exact hs x hx) hc h1 (by simpa using hn) hm trivial
    simpa using this
  | sliceNil ht ho => exact .sliceNil trivial (.inr rfl)
/-! ### An object's nil slice is said to bear a permission -/
theorem ACall.growCell {P : Program} {f : FuncId} {args : List AVal} {σ : Sto} {Q : AVal → Sto → Prop} {o j s w : Nat}
    (h : ACall P f args σ fun r τ => ∃ cs, τ.obj o = some (.cells cs) ∧ cs[j]? = some (.slice [] s .nil) ∧ Q r ((τ.set o (.cells (cs.set j (.slice [] w (.own τ.nown))))).pushOwn 0)) : ACall P f args σ Q := by
  intro γ w0 vs hi hr
  refine (h γ w0 vs hi hr).mono fun e w' ⟨v, r, γ', τ, he, hrep, hinv, hev, cs, h1, h2, hq⟩ => ?_
  have hO : ∀ τ : Sto, St.objAt { n := 0, fr := [], tm := [], loc := [], σ := τ } = τ.O := fun τ => by funext i; cases i <;> rfl
  have hC : Conc γ' w' { tmps := #[], defers := [] } { n := 0, fr := [], tm := [], loc := [], σ := τ } := ⟨rfl, fun t => .undef _ _, rfl, by rw [hO]; exact hinv⟩
  obtain ⟨c1, c2, c3⟩ := hC.ownFull 0
  have hy : St.objAt { n := 0, fr := [], tm := [], loc := [], σ := τ.pushOwn 0 } (.out o) = some (.cells cs) := h1
  obtain ⟨b, hb, hok⟩ := c1.inv.objc (i := .out o) hy (by simp)
  obtain ⟨k1, k2⟩ := c1.setBlock (i := .out o) (x := .cells (cs.set j (.slice [] w (.own τ.nown)))) hy hb (w' := w') (fun _ _ => rfl) rfl rfl rfl rfl (fun e hn => by
    obtain ⟨vs, T, g1, g2, g3, g4⟩ := hok
    refine ⟨vs, T, g1, ?_, g3, g4⟩
    obtain ⟨u, hu, hru⟩ := g2.get h2
    have hx : Rep { γ' with own := fun q => if q = τ.nown then .full 0 else γ'.own q } w' (!(Oid.out o).isOut) (.slice [] w (.own τ.nown)) u := by
      generalize hes : ([] : List AVal) = es at hru
      cases hru with
      | sliceRow _ _ _ _ _ _ ht => exact ht.elim
      | sliceNil ht ho => exact .sliceNil (by simp [AL.tagNil, Own.isNil]) (.inr rfl)
    have := RepL.set hx g2 (i := j)
    rwa [show vs.set j u = vs from by
      apply List.ext_getElem?
      intro i
      rw [List.getElem?_set]
      split
      · rename_i e; subst e
        split
        · exact hu.symm
        · rename_i h0; rw [List.getElem?_eq_none (by omega)]
      · rfl] at this)
  refine ⟨v, r, _, (τ.set o (.cells (cs.set j (.slice [] w (.own τ.nown))))).pushOwn 0, he, Rep.mono (k2.ext) (Rep.mono c3.weak hrep), ?_, ?_, hq⟩
  · have := k1.inv
    rw [show St.objAt (St.setObj { n := 0, fr := [], tm := [], loc := [], σ := τ.pushOwn 0 } (.out o) (.cells (cs.set j (.slice [] w (.own τ.nown))))) = ((τ.set o (.cells (cs.set j (.slice [] w (.own τ.nown))))).pushOwn 0).O from by funext i; cases i <;> rfl] at this
    exact this
  · have e1 := Evo.trans c2 k2
    rw [hO τ, show St.objAt (St.setObj { n := 0, fr := [], tm := [], loc := [], σ := τ.pushOwn 0 } (.out o) (.cells (cs.set j (.slice [] w (.own τ.nown))))) = ((τ.set o (.cells (cs.set j (.slice [] w (.own τ.nown))))).pushOwn 0).O from by funext i; cases i <;> rfl] at e1
    exact hev.trans e1
end Go.AL
