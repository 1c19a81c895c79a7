/-
  The texts A15, G, H, A16, A17, Hm, Hc, Hr, Hs of this seat, one behind the other.
-/
import Derived.Test.YtbghpjamahgegaaZ3
import Derived.Laws.BitsAllLaws

section
namespace Go.AL
set_option linter.unusedSimpArgs false
set_option linter.unusedVariables false

theorem blt_iff {a b : Nat} : Nat.blt a b = true ↔ a < b := by rw [Nat.blt_eq]

def Tag.sealT (m : Nat) : Tag → Tag
  | .own p => match Nat.blt p m with | true => .own p | false => .ro
  | t => t

def Tag.below (m : Nat) : Tag → Bool
  | .own p => Nat.blt p m
  | _ => true

def Oid.below (n : Nat) : Oid → Bool
  | .loc _ => true
  | .out k => Nat.blt k n

mutual
def AVal.sealT (m : Nat) : AVal → AVal
  | .agg cs => .agg (sealL m cs)
  | .tuple vs => .tuple (sealL m vs)
  | .slice es s t => .slice (sealL m es) s (t.sealT m)
  | .iptr cs => .iptr (sealL m cs)
  | .func fn f c => .func fn (sealL m f) (sealL m c)
  | .iface t v => .iface t (v.sealT m)
  | v => v
def sealL (m : Nat) : List AVal → List AVal
  | [] => []
  | a :: as => a.sealT m :: sealL m as
end

mutual
/-- It leads to none of the objects from n on. -/
def AVal.noOut (n : Nat) : AVal → Bool
  | .agg cs => noOutL n cs
  | .tuple vs => noOutL n vs
  | .slice es _ _ => noOutL n es
  | .iptr cs => noOutL n cs
  | .arr o _ _ _ => o.below n
  | .mrow k _ => Nat.blt (k + 1) n
  | .ptr o _ => o.below n
  | .map o => o.below n
  | .func _ f c => noOutL n f && noOutL n c
  | .iface _ v => v.noOut n
  | _ => true
def noOutL (n : Nat) : List AVal → Bool
  | [] => true
  | a :: as => a.noOut n && noOutL n as
end

mutual
/-- It bears none of the permissions from m on. -/
def AVal.noTok (m : Nat) : AVal → Bool
  | .agg cs => noTokL m cs
  | .tuple vs => noTokL m vs
  | .slice es _ t => t.below m && noTokL m es
  | .iptr cs => noTokL m cs
  | .func _ f c => noTokL m f && noTokL m c
  | .iface _ v => v.noTok m
  | _ => true
def noTokL (m : Nat) : List AVal → Bool
  | [] => true
  | a :: as => a.noTok m && noTokL m as
end

def AObj.old (n m : Nat) : AObj → Bool
  | .cells cs => noOutL n cs && noTokL m cs
  | .map es => es.all fun x => (x.1.noOut n && x.2.noOut n) && (x.1.noTok m && x.2.noTok m)
  | .siter _ _ => true
  | .buf es _ g => (noOutL n es && noTokL m es) && Nat.blt g n

theorem noOutL_append (n : Nat) : ∀ (as bs : List AVal), noOutL n (as ++ bs) = (noOutL n as && noOutL n bs)
  | [], _ => by simp [noOutL]
  | a :: as, bs => by simp [noOutL, noOutL_append n as bs, Bool.and_assoc]
theorem noTokL_append (n : Nat) : ∀ (as bs : List AVal), noTokL n (as ++ bs) = (noTokL n as && noTokL n bs)
  | [], _ => by simp [noTokL]
  | a :: as, bs => by simp [noTokL, noTokL_append n as bs, Bool.and_assoc]
theorem sealL_append (n : Nat) : ∀ (as bs : List AVal), sealL n (as ++ bs) = sealL n as ++ sealL n bs
  | [], _ => by simp [sealL]
  | a :: as, bs => by simp [sealL, sealL_append n as bs]

theorem noOut_cells (n : Nat) (a : AVal) : noOutL n a.cells = a.noOut n := by cases a <;> simp [AVal.cells, noOutL, AVal.noOut]
theorem noTok_cells (n : Nat) (a : AVal) : noTokL n a.cells = a.noTok n := by cases a <;> simp [AVal.cells, noTokL, AVal.noTok]
theorem seal_cells (n : Nat) (a : AVal) : sealL n a.cells = (a.sealT n).cells := by cases a <;> simp [AVal.cells, sealL, AVal.sealT]

theorem noOut_flat (n : Nat) : ∀ es : List AVal, noOutL n (flat es) = noOutL n es
  | [] => rfl
  | a :: es => by
    have := noOut_flat n es
    simp only [flat, List.flatMap_cons] at this ⊢
    rw [noOutL_append, noOut_cells, this]
    rfl
theorem noTok_flat (n : Nat) : ∀ es : List AVal, noTokL n (flat es) = noTokL n es
  | [] => rfl
  | a :: es => by
    have := noTok_flat n es
    simp only [flat, List.flatMap_cons] at this ⊢
    rw [noTokL_append, noTok_cells, this]
    rfl
theorem seal_flat (n : Nat) : ∀ es : List AVal, sealL n (flat es) = flat (sealL n es)
  | [] => rfl
  | a :: es => by
    have := seal_flat n es
    simp only [flat, List.flatMap_cons, sealL] at this ⊢
    rw [sealL_append, seal_cells, this]
theorem sealL_length (n : Nat) : ∀ es : List AVal, (sealL n es).length = es.length
  | [] => rfl
  | a :: es => by simp [sealL, sealL_length n es]
theorem sealL_mem (n : Nat) : ∀ {es : List AVal} {x : AVal}, x ∈ sealL n es → ∃ y ∈ es, x = y.sealT n
  | a :: es, x, h => by
    simp only [sealL, List.mem_cons] at h
    rcases h with rfl | h
    · exact ⟨a, by simp, rfl⟩
    · obtain ⟨y, hy, e⟩ := sealL_mem n h; exact ⟨y, by simp [hy], e⟩

/-- The ghost, of which objects from n on and permissions from m on are forgotten. -/
def Gh.cut (γ : Gh) (n m : Nat) : Gh :=
  { imm := γ.imm, obj := fun i => match i.below n with | true => γ.obj i | false => none, own := fun p => match Nat.blt p m with | true => γ.own p | false => .free }

theorem cut_obj {γ : Gh} {n m : Nat} {i : Oid} (h : i.below n = true) : (γ.cut n m).obj i = γ.obj i := by simp [Gh.cut, h]
theorem cut_own {γ : Gh} {n m p : Nat} (h : Nat.blt p m = true) : (γ.cut n m).own p = γ.own p := by simp [Gh.cut, h]

theorem tagRow_seal {γ : Gh} {n m : Nat} {t : Tag} {k b off cap s : Nat} (h : tagRow γ t k b off cap s) : tagRow (γ.cut n m) (t.sealT m) k b off cap s := by
  cases t with
  | own p =>
    simp only [Tag.sealT]
    cases hp : Nat.blt p m with
    | true => simp only [tagRow] at h ⊢; rw [cut_own hp]; exact h
    | false => trivial
  | _ => exact h
theorem tagNil_seal {γ : Gh} {n m : Nat} {t : Tag} (h : tagNil γ t) : tagNil (γ.cut n m) (t.sealT m) := by
  cases t with
  | own p =>
    simp only [Tag.sealT]
    cases hp : Nat.blt p m with
    | true => simp only [tagNil] at h ⊢; rw [cut_own hp]; exact h
    | false => trivial
  | _ => exact h
theorem seal_isNil (m : Nat) (t : Tag) : (t.sealT m).isNil = t.isNil := by
  cases t with
  | own p => simp only [Tag.sealT]; cases Nat.blt p m <;> rfl
  | _ => rfl

mutual
theorem Rep.cut {γ : Gh} {w : World} {n m : Nat} : ∀ {l : Bool} {a : AVal} {v : Value}, Rep γ w l a v → (a.sealT m).noOut n = true → Rep (γ.cut n m) w l (a.sealT m) v
  | _, _, _, .undef l v, _ => .undef l v
  | _, _, _, .bool l b, _ => .bool l b
  | _, _, _, .int l k n, _ => .int l k n
  | _, _, _, .str l s, _ => .str l s
  | _, _, _, .agg h h1, e => .agg (RepL.cut h (by simpa [AVal.noOut, AVal.sealT] using e)) h1
  | _, _, _, .tuple h, e => .tuple (RepL.cut h (by simpa [AVal.noOut, AVal.sealT] using e))
  | l, _, _, .sliceRow (es := es) (s := s) (tag := tag) (b := b) (off := off) (cap := cap) h hs hc h1 hn hm ht, e => by
    have e' : noOutL n (sealL m es) = true := by simpa [AVal.noOut, AVal.sealT] using e
    have := Rep.sliceRow (γ := γ.cut n m) (w := w) (l := l) (es := sealL m es) (s := s) (tag := tag.sealT m) (b := b) (off := off) (cap := cap) (by rw [← seal_flat]; exact RepL.cut h (by rw [seal_flat, noOut_flat]; exact e'))
      (fun x hx => by obtain ⟨y, hy, rfl⟩ := sealL_mem m hx; rw [← seal_cells, sealL_length]; exact hs y hy) hc h1 (by rw [sealL_length]; exact hn) hm (by rw [sealL_length]; exact tagRow_seal ht)
    rw [sealL_length] at this
    exact this
  | _, _, _, .sliceNil ht ho, _ => .sliceNil (tagNil_seal ht) (by rw [seal_isNil]; exact ho)
  | _, _, _, .arr hb ho hn h0, e => .arr (by rw [cut_obj (by simpa [AVal.noOut, AVal.sealT] using e)]; exact hb) ho hn h0
  | _, _, _, .mrow (k := k) hc hn hb, e => by
    have e1 : Nat.blt (k + 1) n = true := by simpa [AVal.noOut, AVal.sealT] using e
    have e2 : Nat.blt k n = true := by rw [blt_iff] at e1 ⊢; omega
    exact .mrow (by rw [cut_obj (by simpa [Oid.below] using e1)]; exact hc) hn (fun h => by
      obtain ⟨b, h1, h2⟩ := hb h
      exact ⟨b, h1, by rw [cut_obj (by simpa [Oid.below] using e2)]; exact h2⟩)
  | _, _, _, .iptr h h1 hc, e => .iptr (RepL.cut h (by simpa [AVal.noOut, AVal.sealT] using e)) h1 hc
  | _, _, _, .ptr hb ho, e => .ptr (by rw [cut_obj (by simpa [AVal.noOut, AVal.sealT] using e)]; exact hb) ho
  | _, _, _, .nilptr l, _ => .nilptr l
  | _, _, _, .map hb ho, e => .map (by rw [cut_obj (by simpa [AVal.noOut, AVal.sealT] using e)]; exact hb) ho
  | _, _, _, .nilmap l, _ => .nilmap l
  | _, _, _, .func hf hc, e => by
    simp only [AVal.noOut, AVal.sealT, Bool.and_eq_true] at e
    exact .func (RepL.cut hf e.1) (RepL.cut hc e.2)
  | _, _, _, .nilfunc l, _ => .nilfunc l
  | _, _, _, .iface h, e => .iface (Rep.cut h (by simpa [AVal.noOut, AVal.sealT] using e))
  | _, _, _, .nilIface l, _ => .nilIface l
theorem RepL.cut {γ : Gh} {w : World} {n m : Nat} : ∀ {l : Bool} {as : List AVal} {vs : List Value}, RepL γ w l as vs → noOutL n (sealL m as) = true → RepL (γ.cut n m) w l (sealL m as) vs
  | _, _, _, .nil l, _ => .nil l
  | _, _, _, .cons h t, e => by
    simp only [sealL, noOutL, Bool.and_eq_true] at e
    exact .cons (Rep.cut h e.1) (RepL.cut t e.2)
end

mutual
theorem seal_noTok {m : Nat} : ∀ a : AVal, a.noTok m = true → a.sealT m = a
  | .agg cs, h => by simp only [AVal.sealT]; rw [sealL_noTok cs (by simpa [AVal.noTok] using h)]
  | .tuple cs, h => by simp only [AVal.sealT]; rw [sealL_noTok cs (by simpa [AVal.noTok] using h)]
  | .slice es s t, h => by
    simp only [AVal.noTok, Bool.and_eq_true] at h
    simp only [AVal.sealT]
    rw [sealL_noTok es h.2]
    cases t with
    | own p => simp only [Tag.below] at h; simp [Tag.sealT, h.1]
    | _ => rfl
  | .iptr cs, h => by simp only [AVal.sealT]; rw [sealL_noTok cs (by simpa [AVal.noTok] using h)]
  | .func fn f c, h => by
    simp only [AVal.noTok, Bool.and_eq_true] at h
    simp only [AVal.sealT]
    rw [sealL_noTok f h.1, sealL_noTok c h.2]
  | .iface t v, h => by simp only [AVal.sealT]; rw [seal_noTok v (by simpa [AVal.noTok] using h)]
  | .undef, _ => rfl
  | .bool _, _ => rfl
  | .int _ _, _ => rfl
  | .str _, _ => rfl
  | .arr _ _ _ _, _ => rfl
  | .mrow _ _, _ => rfl
  | .ptr _ _, _ => rfl
  | .nilptr, _ => rfl
  | .map _, _ => rfl
  | .nilmap, _ => rfl
  | .nilfunc, _ => rfl
  | .nilIface, _ => rfl
theorem sealL_noTok {m : Nat} : ∀ as : List AVal, noTokL m as = true → sealL m as = as
  | [], _ => rfl
  | a :: as, h => by
    simp only [noTokL, Bool.and_eq_true] at h
    simp only [sealL]
    rw [seal_noTok a h.1, sealL_noTok as h.2]
end

/-- What reads in a ghost without them bears none. -/
theorem below_of {γ : Gh} {n : Nat} (hO : ∀ k, n ≤ k → γ.obj (.out k) = none) {o : Oid} {b : Nat} (h : γ.obj o = some b) : o.below n = true := by
  cases o with
  | loc k => rfl
  | out k =>
    simp only [Oid.below]
    rcases Nat.lt_or_ge k n with hk | hk
    · exact blt_iff.2 hk
    · rw [hO k hk] at h; cases h

mutual
theorem Rep.old {γ : Gh} {w : World} {n m : Nat} (hO : ∀ k, n ≤ k → γ.obj (.out k) = none) (hW : ∀ p, m ≤ p → γ.own p = .free) : ∀ {l : Bool} {a : AVal} {v : Value}, Rep γ w l a v → a.noOut n = true ∧ a.noTok m = true
  | _, _, _, .undef l v => ⟨rfl, rfl⟩
  | _, _, _, .bool l b => ⟨rfl, rfl⟩
  | _, _, _, .int l k n => ⟨rfl, rfl⟩
  | _, _, _, .str l s => ⟨rfl, rfl⟩
  | _, _, _, .agg h h1 => by simpa [AVal.noOut, AVal.noTok] using RepL.old hO hW h
  | _, _, _, .tuple h => by simpa [AVal.noOut, AVal.noTok] using RepL.old hO hW h
  | _, _, _, .sliceRow (es := es) (tag := tag) h hs hc h1 hn hm ht => by
    have := RepL.old hO hW h
    rw [noOut_flat, noTok_flat] at this
    simp only [AVal.noOut, AVal.noTok, Bool.and_eq_true]
    refine ⟨this.1, ?_, this.2⟩
    cases tag with
    | own p =>
      simp only [Tag.below]
      rcases Nat.lt_or_ge p m with hp | hp
      · exact blt_iff.2 hp
      · simp only [tagRow, hW p hp] at ht; exact ht.elim
    | _ => rfl
  | _, _, _, .sliceNil (tag := tag) ht ho => by
    simp only [AVal.noOut, AVal.noTok, noOutL, noTokL, Bool.and_true, true_and]
    cases tag with
    | own p =>
      simp only [Tag.below]
      rcases Nat.lt_or_ge p m with hp | hp
      · exact blt_iff.2 hp
      · simp only [tagNil, hW p hp] at ht; exact ht.elim
    | _ => rfl
  | _, _, _, .arr hb ho hn h0 => ⟨below_of hO hb, rfl⟩
  | _, _, _, .mrow hc hn hb => ⟨by have := below_of hO hc; simpa [AVal.noOut, Oid.below] using this, rfl⟩
  | _, _, _, .iptr h h1 hc => by simpa [AVal.noOut, AVal.noTok] using RepL.old hO hW h
  | _, _, _, .ptr hb ho => ⟨below_of hO hb, rfl⟩
  | _, _, _, .nilptr l => ⟨rfl, rfl⟩
  | _, _, _, .map hb ho => ⟨below_of hO hb, rfl⟩
  | _, _, _, .nilmap l => ⟨rfl, rfl⟩
  | _, _, _, .func hf hc => by
    have h1 := RepL.old hO hW hf
    have h2 := RepL.old hO hW hc
    simp [AVal.noOut, AVal.noTok, h1, h2]
  | _, _, _, .nilfunc l => ⟨rfl, rfl⟩
  | _, _, _, .iface h => by simpa [AVal.noOut, AVal.noTok] using Rep.old hO hW h
  | _, _, _, .nilIface l => ⟨rfl, rfl⟩
theorem RepL.old {γ : Gh} {w : World} {n m : Nat} (hO : ∀ k, n ≤ k → γ.obj (.out k) = none) (hW : ∀ p, m ≤ p → γ.own p = .free) : ∀ {l : Bool} {as : List AVal} {vs : List Value}, RepL γ w l as vs → noOutL n as = true ∧ noTokL m as = true
  | _, _, _, .nil l => ⟨rfl, rfl⟩
  | _, _, _, .cons h t => by
    have h1 := Rep.old hO hW h
    have h2 := RepL.old hO hW t
    simp [noOutL, noTokL, h1, h2]
end

theorem objOk.old {γ : Gh} {w : World} {n m : Nat} (hO : ∀ k, n ≤ k → γ.obj (.out k) = none) (hW : ∀ p, m ≤ p → γ.own p = .free) {l : Bool} {b : Nat} {x : AObj} (h : objOk γ w l b x) : x.old n m = true := by
  cases x with
  | cells cs =>
    obtain ⟨vs, T, _, h2, _⟩ := h
    have := RepL.old hO hW h2
    simp [AObj.old, this]
  | map es =>
    obtain ⟨ents, c, _, h2, _⟩ := h
    simp only [AObj.old, List.all_eq_true, Bool.and_eq_true]
    intro y hy
    obtain ⟨i, hi⟩ := List.getElem?_of_mem hy
    have hlt : i < ents.toList.length := by rw [← h2.1]; exact (List.getElem?_eq_some_iff.1 hi).1
    have := h2.2 i y _ hi (List.getElem?_eq_getElem hlt)
    have k1 := Rep.old hO hW this.1
    have k2 := Rep.old hO hW this.2
    exact ⟨⟨k1.1, k2.1⟩, k1.2, k2.2⟩
  | siter s pos => rfl
  | buf es s g =>
    obtain ⟨vs, junk, T, cap, _, h2, _, _, h5, _⟩ := h
    have := RepL.old hO hW h2
    rw [noOut_flat, noTok_flat] at this
    have hg := below_of hO h5
    simp only [Oid.below] at hg
    simp [AObj.old, this, hg]

theorem objOk.cut {γ : Gh} {w : World} {n m : Nat} {l : Bool} {b : Nat} {x : AObj} (h : objOk γ w l b x) (ho : x.old n m = true) : objOk (γ.cut n m) w l b x := by
  cases x with
  | cells cs =>
    obtain ⟨vs, T, h1, h2, h3, h4⟩ := h
    simp only [AObj.old, Bool.and_eq_true] at ho
    have e := sealL_noTok cs ho.2
    have := RepL.cut (n := n) (m := m) h2 (by rw [e]; exact ho.1)
    rw [e] at this
    exact ⟨vs, T, h1, this, h3, h4⟩
  | map es =>
    obtain ⟨ents, c, h1, h2, h3, h4, h5⟩ := h
    simp only [AObj.old, List.all_eq_true, Bool.and_eq_true] at ho
    refine ⟨ents, c, h1, ⟨h2.1, fun i a e ha he => ?_⟩, h3, h4, h5⟩
    obtain ⟨⟨k1, k2⟩, k3, k4⟩ := ho a (List.mem_of_getElem? ha)
    obtain ⟨g1, g2⟩ := h2.2 i a e ha he
    have e1 := seal_noTok a.1 k3
    have e2 := seal_noTok a.2 k4
    have r1 := Rep.cut (n := n) (m := m) g1 (by rw [e1]; exact k1)
    have r2 := Rep.cut (n := n) (m := m) g2 (by rw [e2]; exact k2)
    rw [e1] at r1
    rw [e2] at r2
    exact ⟨r1, r2⟩
  | siter s pos => exact h
  | buf es s g =>
    obtain ⟨vs, junk, T, cap, h1, h2, h3, h4, h5, h6, h7, h8, h9⟩ := h
    simp only [AObj.old, Bool.and_eq_true] at ho
    have e := sealL_noTok (flat es) (by rw [noTok_flat]; exact ho.1.2)
    have := RepL.cut (n := n) (m := m) h2 (by rw [e, noOut_flat]; exact ho.1.1)
    rw [e] at this
    exact ⟨vs, junk, T, cap, h1, this, h3, h4, by rw [cut_obj (by simpa [Oid.below] using ho.2)]; exact h5, h6, h7, h8, h9⟩

/-- A store, of which objects from n on and permissions from m on are forgotten. -/
def Sto.cut (σ : Sto) (n m : Nat) : Sto :=
  { nobj := n, obj := fun i => if i < n then σ.obj i else none, nown := m, own := fun p => if p < m then σ.own p else none }

/-- WHAT NOBODY LEADS TO IS FORGOTTEN. -/
theorem ACall.gc {P : Program} {f : FuncId} {args : List AVal} {σ : Sto} {Q : AVal → Sto → Prop} (h : ACall P f args σ Q) (n m : Nat) (hn : σ.nobj ≤ n) (hm : σ.nown ≤ m)
    (hQ : ∀ r τ, Q r τ → (r.sealT m).noOut n = true ∧ ∀ i x, i < n → τ.obj i = some x → (i < σ.nobj ∧ σ.obj i = some x) ∨ x.old n m = true) :
    ACall P f args σ fun r τ => ∃ r0 τ0, Q r0 τ0 ∧ r = r0.sealT m ∧ τ = τ0.cut n m := by
  intro γ w vs hi hr
  refine (h γ w vs hi hr).mono fun e w' ⟨v, r, γ', σ', he, hrep, hinv, hev, hq⟩ => ?_
  obtain ⟨hout, hobj⟩ := hQ r σ' hq
  have hO : ∀ i x, (σ'.cut n m).O i = some x → σ'.O i = some x ∧ i.below n = true := by
    intro i x hx
    cases i with
    | loc k => cases hx
    | out k =>
      simp only [Sto.O, Sto.cut] at hx
      split at hx
      · rename_i hk; exact ⟨hx, blt_iff.2 hk⟩
      · cases hx
  have hW : ∀ p k, (σ'.cut n m).own p = some k → σ'.own p = some k ∧ Nat.blt p m = true := by
    intro p k hx
    simp only [Sto.cut] at hx
    split at hx
    · rename_i hk; exact ⟨hx, blt_iff.2 hk⟩
    · cases hx
  refine ⟨v, r.sealT m, γ'.cut n m, σ'.cut n m, he, Rep.cut hrep hout, ?_, ?_, r, σ', hq, rfl, rfl⟩
  · refine ⟨hinv.imm, fun i x hx => ?_, fun i j x y b hx hy hbi hbj => ?_, fun p k hp => ?_, fun p q a b c hp hq' hbp hbq => ?_, fun i x p k b hx hp hbi hbp => ?_, fun k hk => ?_, fun p hp => ?_, hinv.amb⟩
    · obtain ⟨h1, h2⟩ := hO i x hx
      have hold : x.old n m = true := by
        cases i with
        | loc k => cases h1
        | out k =>
          rcases hobj k x (blt_iff.1 h2) h1 with ⟨h3, h4⟩ | h3
          · rcases hi.obj (.out k) x h4 with ⟨j, s, g1, g2, g3, g4⟩ | ⟨b0, _, hok0⟩
            · subst g2
              have := below_of (n := n) (fun q hq => hi.freshO q (by omega)) g4
              simpa [AObj.old, noOutL, noTokL, Oid.below] using this
            · exact hok0.old (fun q hq => hi.freshO q (by omega)) (fun q hq => hi.freshW q (by omega))
          · exact h3
      rcases hinv.obj i x h1 with ⟨j, s, g1, g2, g3, g4⟩ | ⟨b, hb, hok⟩
      · subst g1; subst g2
        simp only [AObj.old, Bool.and_eq_true] at hold
        exact .inl ⟨j, s, rfl, rfl, by rw [cut_obj h2]; exact g3, by rw [cut_obj (by simpa [Oid.below] using hold.2)]; exact g4⟩
      · exact .inr ⟨b, by rw [cut_obj h2]; exact hb, hok.cut hold⟩
    · obtain ⟨h1, h2⟩ := hO i x hx
      obtain ⟨h3, h4⟩ := hO j y hy
      rw [cut_obj h2] at hbi
      rw [cut_obj h4] at hbj
      exact hinv.inj i j x y b h1 h3 hbi hbj
    · obtain ⟨h1, h2⟩ := hW p k hp
      rw [cut_own h2]
      exact (hinv.own p k h1).mono (fun _ _ => rfl) (fun _ _ _ h => h)
    · obtain ⟨h1, h2⟩ := hW p a hp
      obtain ⟨h3, h4⟩ := hW q b hq'
      rw [cut_own h2] at hbp
      rw [cut_own h4] at hbq
      exact hinv.ownInj p q a b c h1 h3 hbp hbq
    · obtain ⟨h1, h2⟩ := hO i x hx
      obtain ⟨h3, h4⟩ := hW p k hp
      rw [cut_obj h2] at hbi
      rw [cut_own h4] at hbp
      exact hinv.apart i x p k b h1 h3 hbi hbp
    · have hk : n ≤ k := hk
      have : Nat.blt k n = false := by
        cases hb : Nat.blt k n with
        | true => have := blt_iff.1 hb; omega
        | false => rfl
      simp [Gh.cut, Oid.below, this]
    · have hk : m ≤ p := hp
      have : Nat.blt p m = false := by
        cases hb : Nat.blt p m with
        | true => have := blt_iff.1 hb; omega
        | false => rfl
      simp [Gh.cut, this]
  · refine ⟨hev.os, hev.tape, hev.output, hev.size, hev.old, ⟨hev.ext.imm, fun i b hl hb => ?_, fun p => ?_⟩, hev.new, fun b hb => hev.mutd b ?_⟩
    · have : i.below n = true := below_of (n := n) (fun k hk => hi.freshO k (by omega)) hb
      rw [cut_obj this]
      exact hev.ext.obj i b hl hb
    · cases hp : Nat.blt p m with
      | true => rw [cut_own hp]; exact hev.ext.own p
      | false =>
        have hge : m ≤ p := by
          rcases Nat.lt_or_ge p m with hlt | hge
          · rw [blt_iff.2 hlt] at hp; cases hp
          · exact hge
        rw [hi.freshW p (by omega)]
        trivial
    · rcases hb with ⟨i, x, hx, hbi⟩ | ⟨p, k, hp, hbp⟩
      · obtain ⟨h1, h2⟩ := hO i x hx
        rw [cut_obj h2] at hbi
        exact .inl ⟨i, x, h1, hbi⟩
      · obtain ⟨h1, h2⟩ := hW p k hp
        rw [cut_own h2] at hbp
        exact .inr ⟨p, k, h1, hbp⟩

/-- What a store says beyond its numbers is nothing. -/
theorem Inv.cutSto {γ : Gh} {w : World} {σ : Sto} (hi : Inv γ w σ.O σ.own σ.nobj σ.nown) : σ.cut σ.nobj σ.nown = σ := by
  cases σ with
  | mk no ob nw ow =>
    simp only [Sto.cut, Sto.mk.injEq, true_and]
    refine ⟨?_, ?_⟩
    · funext i
      split
      · rfl
      · rename_i h
        cases hx : ob i with
        | none => rfl
        | some x =>
          rcases hi.obj (.out i) x hx with ⟨j, s, g1, g2, g3, g4⟩ | ⟨b, hb, _⟩
          · cases g1
            have h : no ≤ i := by simpa using h
            rw [hi.freshO (i + 1) (Nat.le_succ_of_le h)] at g4
            cases g4
          · rw [hi.freshO i (by simpa using h)] at hb
            cases hb
    · funext p
      split
      · rfl
      · rename_i h
        cases hx : ow p with
        | none => rfl
        | some k =>
          have := hi.own p k hx
          rw [hi.freshW p (by simpa using h)] at this
          exact this.elim

/-- A call that leaves nothing behind but its answer. -/
theorem ACall.shutAt {P : Program} {f : FuncId} {args : List AVal} {σ : Sto} {Q : AVal → Sto → Prop} (h : ACall P f args σ Q) {v : AVal}
    (hQ : ∀ r τ, Q r τ → r.sealT σ.nown = v ∧ v.noOut σ.nobj = true ∧ (∀ i, i < σ.nobj → τ.obj i = σ.obj i) ∧ ∀ p, p < σ.nown → τ.own p = σ.own p) :
    ACall P f args σ fun r τ => r = v ∧ τ = σ := by
  intro γ w vs hi hr
  refine (h.gc σ.nobj σ.nown (Nat.le_refl _) (Nat.le_refl _) (fun r τ hq => ?_) γ w vs hi hr).mono fun e w' ⟨v', r, γ', σ', he, hrep, hinv, hev, r0, τ0, hq, e1, e2⟩ => ⟨v', r, γ', σ', he, hrep, hinv, hev, ?_, ?_⟩
  · obtain ⟨h1, h2, h3, h4⟩ := hQ r τ hq
    rw [h1]
    refine ⟨h2, fun i x hx hτ => .inl ⟨hx, ?_⟩⟩
    rw [← h3 i hx]; exact hτ
  · rw [e1, (hQ r0 τ0 hq).1]
  · obtain ⟨_, _, h3, h4⟩ := hQ r0 τ0 hq
    have key : τ0.cut σ.nobj σ.nown = σ.cut σ.nobj σ.nown := by
      unfold Sto.cut
      congr 1
      · funext i
        split
        · rename_i hlt; exact h3 i hlt
        · rfl
      · funext p
        split
        · rename_i hlt; exact h4 p hlt
        · rfl
    exact e2.trans (key.trans hi.cutSto)

/-! ### What is said less exactly -/

def Wk (a b : AVal) : Prop := ∀ (γ : Gh) (w : World) (l : Bool) (v : Value), Rep γ w l a v → Rep γ w l b v
def WkL (as bs : List AVal) : Prop := ∀ (γ : Gh) (w : World) (l : Bool) (vs : List Value), RepL γ w l as vs → RepL γ w l bs vs

theorem Wk.refl (a : AVal) : Wk a a := fun _ _ _ _ h => h
theorem WkL.refl (a : List AVal) : WkL a a := fun _ _ _ _ h => h
theorem WkL.cons {a b : AVal} {as bs : List AVal} (h : Wk a b) (t : WkL as bs) : WkL (a :: as) (b :: bs) := fun γ w l vs hr => by
  cases hr with
  | cons h1 h2 => exact .cons (h _ _ _ _ h1) (t _ _ _ _ h2)
theorem Wk.agg {as bs : List AVal} (h : WkL as bs) : Wk (.agg as) (.agg bs) := fun γ w l v hr => by
  cases hr with
  | agg h1 h2 => exact .agg (h _ _ _ _ h1) h2
theorem Wk.tuple {as bs : List AVal} (h : WkL as bs) : Wk (.tuple as) (.tuple bs) := fun γ w l v hr => by
  cases hr with
  | tuple h1 => exact .tuple (h _ _ _ _ h1)
theorem Wk.ro (es : List AVal) (s : Nat) (t : Tag) : Wk (.slice es s t) (.slice es s .ro) := fun γ w l v hr => by
  cases hr with
  | sliceRow hr hs hc h1 hn hm ht => exact .sliceRow hr hs hc h1 hn hm trivial
  | sliceNil ht ho => exact .sliceNil trivial (.inr rfl)
theorem Wk.nil (s s' : Nat) (t : Tag) : Wk (.slice [] s t) (.slice [] s' .ro) := fun γ w l v hr => by
  generalize he : ([] : List AVal) = es at hr
  cases hr with
  | sliceRow hr hs hc h1 hn hm ht =>
    subst he
    exact .sliceRow hr (fun _ h => by cases h) hc h1 hn hm trivial
  | sliceNil ht ho => exact .sliceNil trivial (.inr rfl)

theorem ACall.wk {P : Program} {f : FuncId} {args : List AVal} {σ : Sto} {Q Q' : AVal → Sto → Prop} (h : ACall P f args σ Q) (hQ : ∀ r τ, Q r τ → ∃ r', Wk r r' ∧ Q' r' τ) : ACall P f args σ Q' :=
  fun γ w vs hi hr => (h γ w vs hi hr).mono fun _ _ ⟨v, r, γ', σ', h1, h2, h3, h4, h5⟩ => by
    obtain ⟨r', h6, h7⟩ := hQ r σ' h5
    exact ⟨v, r', γ', σ', h1, h6 _ _ _ _ h2, h3, h4, h7⟩

theorem ACall.args {P : Program} {f : FuncId} {args args' : List AVal} {σ : Sto} {Q : AVal → Sto → Prop} (h : ACall P f args σ Q) (hw : WkL args' args) : ACall P f args' σ Q :=
  fun γ w vs hi hr => h γ w vs hi (hw _ _ _ _ hr)

/-- A call that leaves nothing behind but its answer, said less exactly. -/
theorem ACall.pure {P : Program} {f : FuncId} {args : List AVal} {σ : Sto} {Q : AVal → Sto → Prop} (h : ACall P f args σ Q) {v : AVal} (hv : v.noOut σ.nobj = true) (hv2 : v.noTok σ.nown = true)
    (hQ : ∀ r τ, Q r τ → Wk r v ∧ (∀ i, i < σ.nobj → τ.obj i = σ.obj i) ∧ ∀ p, p < σ.nown → τ.own p = σ.own p) : ACall P f args σ fun r τ => r = v ∧ τ = σ := by
  refine (h.wk (Q' := fun r τ => r = v ∧ (∀ i, i < σ.nobj → τ.obj i = σ.obj i) ∧ ∀ p, p < σ.nown → τ.own p = σ.own p) (fun r τ hq => ?_)).shutAt (fun r τ hq => ?_)
  · obtain ⟨h1, h2, h3⟩ := hQ r τ hq
    exact ⟨v, h1, rfl, h2, h3⟩
  · obtain ⟨rfl, h2, h3⟩ := hq
    exact ⟨seal_noTok r hv2, hv, h2, h3⟩

/-! ### A contract over the empty store serves every store -/

theorem WkL.seal0 : ∀ {as : List AVal}, noOutL 0 (sealL 0 as) = true → ∀ (γ : Gh) (w : World) (l : Bool) (vs : List Value), RepL γ w l as vs → RepL (γ.cut 0 0) w l (sealL 0 as) vs :=
  fun h _ _ _ _ hr => RepL.cut hr h

theorem blt_zero (n : Nat) : Nat.blt n 0 = false := by
  cases h : Nat.blt n 0 with
  | false => rfl
  | true => have := blt_iff.1 h; omega
theorem cut0_obj (γ : Gh) (n : Nat) : (γ.cut 0 0).obj (.out n) = none := by simp [Gh.cut, Oid.below, blt_zero]
theorem cut0_own (γ : Gh) (p : Nat) : (γ.cut 0 0).own p = .free := by simp [Gh.cut, blt_zero]

/-- WHAT IS SO OVER THE EMPTY STORE IS SO OVER EVERY STORE: a call that is handed nothing of the store leaves it alone. -/
theorem ACall.ofEmpty {P : Program} {f : FuncId} {args : List AVal} {Q : AVal → Sto → Prop} {v : AVal} (h : ACall P f (sealL 0 args) Sto.empty Q) (ha : noOutL 0 (sealL 0 args) = true) (hv : v.noOut 0 = true) (hv2 : v.noTok 0 = true)
    (hQ : ∀ r τ, Q r τ → Wk r v) (σ : Sto) : ACall P f args σ fun r τ => r = v ∧ τ = σ := by
  intro γ w vs hi hr
  have hr0 : RepL (γ.cut 0 0) w false (sealL 0 args) vs := WkL.seal0 ha γ w false vs hr
  have hi0 : Inv (γ.cut 0 0) w Sto.empty.O Sto.empty.own Sto.empty.nobj Sto.empty.nown := by
    refine ⟨hi.imm, fun i x hx => (top_none i x hx).elim, fun i j x y b hx => (top_none i x hx).elim, fun p n hp => (by cases hp), fun p q n m b hp => (by cases hp), fun i x p n b hx => (top_none i x hx).elim, fun n _ => ?_, fun p _ => ?_, hi.amb⟩
    · exact cut0_obj γ n
    · exact cut0_own γ p
  refine (h (γ.cut 0 0) w vs hi0 hr0).mono fun e w' ⟨u, r, γ', τ, he, hrep, hinv, hev, hq⟩ => ?_
  have hmut : ∀ b, ¬ Mut (γ.cut 0 0) Sto.empty.O Sto.empty.own b := fun b hb => by
    rcases hb with ⟨i, x, hx, _⟩ | ⟨p, n, hp, _⟩
    · exact top_none i x hx
    · cases hp
  have hold : ∀ b, b < w.heap.size → w'.heap[b]? = w.heap[b]? := fun b hb => hev.old b hb (hmut b)
  have hnew : ∀ b o, b < w.heap.size → γ'.imm b o → γ.imm b o := fun b o hb hi' => by
    rcases hev.new b o hi' with h1 | h1 | h1
    · exact h1
    · omega
    · exact (hmut b h1).elim
  have e1 : ∀ l, Ext l γ w { γ with imm := γ'.imm } w' := fun l => ⟨fun b o hb => hev.ext.imm b o hb, fun _ _ _ h => h, fun p => OwnStep.refl _⟩
  have hrv : Rep γ' w' false v u := hQ r τ hq _ _ _ _ hrep
  have hrc : Rep (γ'.cut 0 0) w' false v u := by
    have := Rep.cut (n := 0) (m := 0) hrv (by rw [seal_noTok v hv2]; exact hv)
    rwa [seal_noTok v hv2] at this
  have e2 : Ext false (γ'.cut 0 0) w' { γ with imm := γ'.imm } w' := ⟨fun b o hb => ⟨hb, rfl⟩, (fun i b hl hb => by
    cases i with
    | loc k => simp [Oid.isOut] at hl
    | out k => rw [cut0_obj] at hb; cases hb), fun p => (by rw [cut0_own]; trivial)⟩
  refine ⟨u, v, { γ with imm := γ'.imm }, σ, he, Rep.mono e2 hrc, ?_, ?_, rfl, rfl⟩
  · refine ⟨fun b o hb => ?_, fun i x hx => ?_, hi.inj, fun p n hp => ?_, hi.ownInj, hi.apart, hi.freshO, hi.freshW, hinv.amb⟩
    · exact hinv.imm b o hb
    · rcases hi.obj i x hx with h1 | ⟨b, hb, hok⟩
      · exact .inl h1
      exact .inr ⟨b, hb, hok.mono (e1 _) (hold b hok.lt) (fun o ho => hok.notImm o (hnew b o hok.lt ho))⟩
    · have hok := hi.own p n hp
      exact hok.mono (fun b hb => hold b (hok.lt hb)) (fun b o hb ho => hnew b o (hok.lt hb) ho)
  · refine ⟨hev.os, hev.tape, hev.output, hev.size, fun b hb _ => hold b hb, e1 false, fun b o hb => ?_, fun b hb => .inl hb⟩
    rcases hev.new b o hb with h1 | h1 | h1
    · exact .inl h1
    · exact .inr (.inl h1)
    · exact (hmut b h1).elim

theorem PCall.ofEmpty {P : Program} {f : FuncId} {args : List AVal} {Q : AVal → Sto → Prop} {v : AVal} (h : ACall P f (sealL 0 args) Sto.empty Q) (ha : noOutL 0 (sealL 0 args) = true) (hv : v.noOut 0 = true) (hv2 : v.noTok 0 = true)
    (hQ : ∀ r τ, Q r τ → Wk r v) : PCall P f args v := fun σ => h.ofEmpty ha hv hv2 hQ σ
/-! ### Elements said less exactly -/
theorem WkL.append : ∀ {as as' : List AVal}, as.length = as'.length → WkL as as' → ∀ {bs bs' : List AVal}, WkL bs bs' → WkL (as ++ bs) (as' ++ bs') := by
  intro as as' hl h bs bs' k γ w l vs hr
  have h1 := RepL.split hr
  have := RepL.append (k _ _ _ _ h1.2) (h _ _ _ _ h1.1)
  rwa [List.take_append_drop] at this
theorem WkL.flat {g : AVal → AVal} : ∀ {es : List AVal}, (∀ e ∈ es, WkL e.cells (g e).cells ∧ (g e).cells.length = e.cells.length) → WkL (AL.flat es) (AL.flat (es.map g))
  | [], _ => .refl _
  | e :: es, h => by
    simp only [AL.flat, List.map_cons, List.flatMap_cons]
    have h1 := h e (by simp)
    exact WkL.append h1.2.symm h1.1 (WkL.flat (es := es) fun x hx => h x (by simp [hx]))
theorem Wk.elems {g : AVal → AVal} {es : List AVal} {s : Nat} {t : Tag} (h : ∀ e ∈ es, WkL e.cells (g e).cells ∧ (g e).cells.length = e.cells.length) : Wk (.slice es s t) (.slice (es.map g) s .ro) := fun γ w l v hr => by
  cases hr with
  | sliceRow hr hs hc h1 hn hm ht =>
    have := Rep.sliceRow (γ := γ) (w := w) (l := l) (tag := .ro) (es := es.map g) (WkL.flat h _ _ _ _ hr) (fun e he => by
      obtain ⟨x, hx, rfl⟩ := List.mem_map.1 he
      rw [(h x hx).2]; exact hs x hx) hc h1 (by simpa using hn) hm trivial
    simpa using this
  | sliceNil ht ho => exact .sliceNil trivial (.inr rfl)
/-! ### An object's nil slice is said to bear a permission -/
theorem ACall.growCell {P : Program} {f : FuncId} {args : List AVal} {σ : Sto} {Q : AVal → Sto → Prop} {o j s w : Nat}
    (h : ACall P f args σ fun r τ => ∃ cs, τ.obj o = some (.cells cs) ∧ cs[j]? = some (.slice [] s .nil) ∧ Q r ((τ.set o (.cells (cs.set j (.slice [] w (.own τ.nown))))).pushOwn 0)) : ACall P f args σ Q := by
  intro γ w0 vs hi hr
  refine (h γ w0 vs hi hr).mono fun e w' ⟨v, r, γ', τ, he, hrep, hinv, hev, cs, h1, h2, hq⟩ => ?_
  have hO : ∀ τ : Sto, St.objAt { n := 0, fr := [], tm := [], loc := [], σ := τ } = τ.O := fun τ => by funext i; cases i <;> rfl
  have hC : Conc γ' w' { tmps := #[], defers := [] } { n := 0, fr := [], tm := [], loc := [], σ := τ } := ⟨rfl, fun t => .undef _ _, rfl, by rw [hO]; exact hinv⟩
  obtain ⟨c1, c2, c3⟩ := hC.ownFull 0
  have hy : St.objAt { n := 0, fr := [], tm := [], loc := [], σ := τ.pushOwn 0 } (.out o) = some (.cells cs) := h1
  obtain ⟨b, hb, hok⟩ := c1.inv.objc (i := .out o) hy (by simp)
  obtain ⟨k1, k2⟩ := c1.setBlock (i := .out o) (x := .cells (cs.set j (.slice [] w (.own τ.nown)))) hy hb (w' := w') (fun _ _ => rfl) rfl rfl rfl rfl (fun e hn => by
    obtain ⟨vs, T, g1, g2, g3, g4⟩ := hok
    refine ⟨vs, T, g1, ?_, g3, g4⟩
    obtain ⟨u, hu, hru⟩ := g2.get h2
    have hx : Rep { γ' with own := fun q => if q = τ.nown then .full 0 else γ'.own q } w' (!(Oid.out o).isOut) (.slice [] w (.own τ.nown)) u := by
      generalize hes : ([] : List AVal) = es at hru
      cases hru with
      | sliceRow _ _ _ _ _ _ ht => exact ht.elim
      | sliceNil ht ho => exact .sliceNil (by simp [AL.tagNil, Own.isNil]) (.inr rfl)
    have := RepL.set hx g2 (i := j)
    rwa [show vs.set j u = vs from by
      apply List.ext_getElem?
      intro i
      rw [List.getElem?_set]
      split
      · rename_i e; subst e
        split
        · exact hu.symm
        · rename_i h0; rw [List.getElem?_eq_none (by omega)]
      · rfl] at this)
  refine ⟨v, r, _, (τ.set o (.cells (cs.set j (.slice [] w (.own τ.nown))))).pushOwn 0, he, Rep.mono (k2.ext) (Rep.mono c3.weak hrep), ?_, ?_, hq⟩
  · have := k1.inv
    rw [show St.objAt (St.setObj { n := 0, fr := [], tm := [], loc := [], σ := τ.pushOwn 0 } (.out o) (.cells (cs.set j (.slice [] w (.own τ.nown))))) = ((τ.set o (.cells (cs.set j (.slice [] w (.own τ.nown))))).pushOwn 0).O from by funext i; cases i <;> rfl] at this
    exact this
  · have e1 := Evo.trans c2 k2
    rw [hO τ, show St.objAt (St.setObj { n := 0, fr := [], tm := [], loc := [], σ := τ.pushOwn 0 } (.out o) (.cells (cs.set j (.slice [] w (.own τ.nown))))) = ((τ.set o (.cells (cs.set j (.slice [] w (.own τ.nown))))).pushOwn 0).O from by funext i; cases i <;> rfl] at e1
    exact hev.trans e1
end Go.AL
end

section
namespace Go.AL

theorem wrap_i64 {n : Int} (h0 : -9223372036854775808 ≤ n) (h1 : n ≤ 9223372036854775807) : IntKind.i64.wrap n = n := by
  have e1 : IntKind.i64.min = -9223372036854775808 := by decide
  have e2 : IntKind.i64.max = 9223372036854775807 := by decide
  simp only [IntKind.wrap, IntKind.signed, IntKind.bits]
  simp
  omega

/-- A value that the kernel does not look into. -/
noncomputable def holdA {α : Type} (a : α) : α := Classical.choose (⟨a, rfl⟩ : ∃ b : α, b = a)
@[simp] theorem holdA_eq {α : Type} (a : α) : holdA a = a := Classical.choose_spec (⟨a, rfl⟩ : ∃ b : α, b = a)

theorem elemAt_get {es : List AVal} {i : Nat} (h : i < es.length) : elemAt es (i : Int) = es[i].cells := by
  simp [elemAt, List.getD, h]

theorem elemAt_int {es : List AVal} {i : Nat} {k : IntKind} (h : i < es.length) (hok : etaOk (.int k) es[i] = true) : elemAt es (i : Int) = [.int k ((es.map AVal.intOf)[i]'(by simpa using h))] := by
  rw [elemAt_get h]
  simp only [List.getElem_map]
  generalize es[i] = v at hok
  cases v <;> simp [etaOk] at hok
  subst hok
  rfl

theorem foldl_drop {α β : Type} (f : β → α → β) (l : List α) (i : Nat) (h : i < l.length) (b : β) : (l.drop i).foldl f b = (l.drop (i + 1)).foldl f (f b l[i]) := by
  rw [List.drop_eq_getElem_cons h, List.foldl_cons]

@[simp] theorem own_setOwn (σ : Sto) (p n q : Nat) : (σ.setOwn p n).own q = if q = p then some n else σ.own q := rfl
@[simp] theorem own_pushOwn (σ : Sto) (n q : Nat) : (σ.pushOwn n).own q = if q = σ.nown then some n else σ.own q := rfl
@[simp] theorem nown_setOwn (σ : Sto) (p n : Nat) : (σ.setOwn p n).nown = σ.nown := rfl
@[simp] theorem nown_pushOwn (σ : Sto) (n : Nat) : (σ.pushOwn n).nown = σ.nown + 1 := rfl
@[simp] theorem obj_setOwn (σ : Sto) (p n : Nat) : (σ.setOwn p n).obj = σ.obj := rfl
@[simp] theorem obj_pushOwn (σ : Sto) (n : Nat) : (σ.pushOwn n).obj = σ.obj := rfl
@[simp] theorem nobj_setOwn (σ : Sto) (p n : Nat) : (σ.setOwn p n).nobj = σ.nobj := rfl
@[simp] theorem nobj_pushOwn (σ : Sto) (n : Nat) : (σ.pushOwn n).nobj = σ.nobj := rfl

theorem leaveTo {id : Nat} {f : St → Prop} {K : Exit → St → Prop} {st : St} (h : f st) : blockK id (thenK f K) (.exit id) st := by
  simp only [blockK, if_true]
  exact h

theorem leaveK {id : Nat} {K : Exit → St → Prop} {st : St} (h : K .normal st) : blockK id K (.exit id) st := by
  simp only [blockK, if_true]
  exact h

theorem inBlock {id : Nat} {f : St → Prop} {K : Exit → St → Prop} {st : St} (h : f st) : blockK id (thenK f K) .normal st := h

theorem toCut {X : St → Prop} {s : St} (h : X s) : cutV X s := h

/-! ### The empty store, with permissions pushed -/
theorem setOwn_e1 (n m : Nat) : (Sto.pushOwn Sto.empty n).setOwn 0 m = Sto.pushOwn Sto.empty m := by
  simp only [Sto.setOwn, Sto.pushOwn, Sto.empty, Sto.mk.injEq, true_and]
  funext q; by_cases h : q = 0 <;> simp [h]
theorem setOwn_e20 (a b m : Nat) : (Sto.pushOwn (Sto.pushOwn Sto.empty a) b).setOwn 0 m = Sto.pushOwn (Sto.pushOwn Sto.empty m) b := by
  simp only [Sto.setOwn, Sto.pushOwn, Sto.empty, Sto.mk.injEq, true_and]
  funext q; by_cases h : q = 0 <;> by_cases h1 : q = 1 <;> simp [h, h1]
theorem setOwn_e21 (a b m : Nat) : (Sto.pushOwn (Sto.pushOwn Sto.empty a) b).setOwn 1 m = Sto.pushOwn (Sto.pushOwn Sto.empty a) m := by
  simp only [Sto.setOwn, Sto.pushOwn, Sto.empty, Sto.mk.injEq, true_and]
  funext q; by_cases h : q = 0 <;> by_cases h1 : q = 1 <;> simp [h, h1]
theorem own_e1 (n : Nat) : (Sto.pushOwn Sto.empty n).own 0 = some n := rfl
theorem own_e20 (a b : Nat) : (Sto.pushOwn (Sto.pushOwn Sto.empty a) b).own 0 = some a := rfl
theorem own_e21 (a b : Nat) : (Sto.pushOwn (Sto.pushOwn Sto.empty a) b).own 1 = some b := rfl
theorem gb_eq (b : Bool) (X : Prop) : gb b X = (b = true ∧ X) := propext gb_iff
/-- What each element of a list is, the list is. -/
theorem map_of {α β : Type} {f : β → α} {P : β → Prop} : ∀ {es : List α}, (∀ x ∈ es, ∃ y, x = f y ∧ P y) → ∃ ys : List β, es = ys.map f ∧ ∀ y ∈ ys, P y
  | [], _ => ⟨[], rfl, fun _ h => by cases h⟩
  | e :: es, h => by
    obtain ⟨y, rfl, hy⟩ := h e (by simp)
    obtain ⟨ys, rfl, hys⟩ := map_of (es := es) fun x hx => h x (by simp [hx])
    exact ⟨y :: ys, rfl, fun z hz => by
      rcases List.mem_cons.1 hz with rfl | hz
      · exact hy
      · exact hys z hz⟩
end Go.AL
end

section
namespace Go.AL
set_option linter.unusedSimpArgs false
set_option linter.unusedVariables false

theorem dt {p : Prop} [Decidable p] (h : p) : decide p = true := decide_eq_true h

/-! ### Lists of one kind -/
theorem elemAt_map {β : Type} (f : β → AVal) (xs : List β) (i : Nat) (h : i < xs.length) : elemAt (xs.map f) (i : Int) = (f xs[i]).cells := by
  rw [elemAt_get (by simpa using h)]
  simp
theorem noOutL_map {β : Type} {f : β → AVal} (n : Nat) (h : ∀ x, (f x).noOut n = true) : ∀ xs : List β, noOutL n (xs.map f) = true
  | [] => rfl
  | x :: xs => by simp only [List.map_cons, noOutL, h x, noOutL_map n h xs, Bool.and_self]
theorem noTokL_map {β : Type} {f : β → AVal} (n : Nat) (h : ∀ x, (f x).noTok n = true) : ∀ xs : List β, noTokL n (xs.map f) = true
  | [] => rfl
  | x :: xs => by simp only [List.map_cons, noTokL, h x, noTokL_map n h xs, Bool.and_self]
theorem noLocL_map {β : Type} {f : β → AVal} (h : ∀ x, (f x).noLoc = true) : ∀ xs : List β, noLocL (xs.map f) = true
  | [] => rfl
  | x :: xs => by simp only [List.map_cons, noLocL, h x, noLocL_map h xs, Bool.and_self]
theorem flat_map {β : Type} {f : β → AVal} (h : ∀ x, (f x).cells = [f x]) : ∀ xs : List β, flat (xs.map f) = xs.map f
  | [] => rfl
  | x :: xs => by
    have := flat_map h xs
    simp only [flat, List.map_cons, List.flatMap_cons, h x] at this ⊢
    rw [this]; rfl
theorem take_drop_all {α : Type} (l : List α) (n : Nat) : List.take (l.length - n) (l.drop n) = l.drop n := List.take_of_length_le (by simp)
theorem i64_succ {i n : Nat} (h : i < n) (hn : n ≤ 140737488351232) : IntKind.i64.wrap ((i : Int) + 1) = ((i + 1 : Nat) : Int) := by rw [wrap_i64 (by omega) (by omega)]; rfl

/-! ### It has the width, or no elements -/
def okW (n s : Nat) (es : List AVal) : Bool := s == n || es.isEmpty
theorem okW_same (n : Nat) (es : List AVal) : okW n n es = true := by simp [okW]
theorem okW_nil (n s : Nat) : okW n s [] = true := by simp [okW]
theorem wkW {n s : Nat} {es : List AVal} (t : Tag) (h : okW n s es = true) : Wk (.slice es s t) (.slice es n .ro) := by
  simp only [okW, Bool.or_eq_true, beq_iff_eq] at h
  rcases h with rfl | h
  · exact Wk.ro es s t
  · have : es = [] := List.isEmpty_iff.1 h
    subst this
    exact Wk.nil s n t
theorem wkW_map {n s : Nat} {es : List AVal} {g : AVal → AVal} (t : Tag) (h : okW n s es = true) (hg : ∀ e ∈ es, WkL e.cells (g e).cells ∧ (g e).cells.length = e.cells.length) : Wk (.slice es s t) (.slice (es.map g) n .ro) := by
  simp only [okW, Bool.or_eq_true, beq_iff_eq] at h
  rcases h with rfl | h
  · exact Wk.elems hg
  · have : es = [] := List.isEmpty_iff.1 h
    subst this
    exact Wk.nil s n t

/-! ### Bytes -/
def bw (l : List UInt8) : List AVal := l.map ofByte
def byteIs : AVal → Bool
  | .int .u8 n => decide (0 ≤ n) && decide (n < 256)
  | _ => false
theorem u8_lt (b : UInt8) : b.toNat < 256 := b.toNat_lt
theorem bw_nil : bw [] = [] := rfl
theorem bw_cons (b : UInt8) (l : List UInt8) : bw (b :: l) = .int .u8 (b.toNat : Int) :: bw l := rfl
@[simp] theorem bw_length (l : List UInt8) : (bw l).length = l.length := by simp [bw]
theorem bw_append (a b : List UInt8) : bw (a ++ b) = bw a ++ bw b := by simp [bw]
theorem bw_take (a : List UInt8) (n : Nat) : bw (a.take n) = (bw a).take n := by simp [bw, List.map_take]
theorem bw_drop (a : List UInt8) (n : Nat) : bw (a.drop n) = (bw a).drop n := by simp [bw, List.map_drop]
theorem byteOf_ofByte (b : UInt8) : byteOf (ofByte b) = b := by simp [byteOf, ofByte]
@[simp] theorem map_byteOf_bw (l : List UInt8) : (bw l).map AL.byteOf = l := by
  simp only [bw, List.map_map]
  conv => rhs; rw [← List.map_id l]
  exact List.map_congr_left fun b _ => byteOf_ofByte b
@[simp] theorem bw_isU8 (l : List UInt8) : (bw l).all isU8 = true := by simp [bw, isU8, ofByte]
@[simp] theorem bw_byteIs (l : List UInt8) : (bw l).all byteIs = true := by
  simp only [bw, List.all_map, List.all_eq_true]
  intro b _
  have := u8_lt b
  simp [byteIs, ofByte]; omega
theorem elemAt_bw (l : List UInt8) (i : Nat) (h : i < l.length) : elemAt (bw l) (i : Int) = [.int .u8 (l[i].toNat : Int)] := elemAt_map ofByte l i h
theorem bw_noOut (n : Nat) (l : List UInt8) : noOutL n (bw l) = true := noOutL_map n (fun _ => rfl) l
theorem bw_noTok (n : Nat) (l : List UInt8) : noTokL n (bw l) = true := noTokL_map n (fun _ => rfl) l
theorem bw_noLoc (l : List UInt8) : noLocL (bw l) = true := noLocL_map (fun _ => rfl) l
theorem bw_of {es : List AVal} (h : es.all byteIs = true) : es = bw (es.map AL.byteOf) := by
  induction es with
  | nil => rfl
  | cons e es ih =>
    simp only [List.all_cons, Bool.and_eq_true] at h
    have h1 := h.1
    unfold byteIs at h1
    split at h1
    · rename_i n
      simp only [Bool.and_eq_true, decide_eq_true_eq] at h1
      simp only [List.map_cons, bw_cons, byteOf]
      rw [← ih h.2]
      congr 1
      have : (UInt8.ofNat n.toNat).toNat = n.toNat := by simp; omega
      rw [this]
      congr 1
      omega
    · cases h1
theorem wk_bw {s : Nat} {es : List AVal} (t : Tag) (hn : okW 1 s es = true) (h : es.all byteIs = true) : Wk (.slice es s t) (.slice (bw (es.map AL.byteOf)) 1 .ro) := by
  rw [← bw_of h]
  exact wkW t hn

/-! ### Numbers, texts -/
def iv (l : List Int) : List AVal := l.map (AVal.int .i64)
@[simp] theorem iv_length (l : List Int) : (iv l).length = l.length := by simp [iv]
theorem iv_append (a b : List Int) : iv (a ++ b) = iv a ++ iv b := by simp [iv]
theorem iv_take (a : List Int) (n : Nat) : iv (a.take n) = (iv a).take n := by simp [iv, List.map_take]
theorem iv_drop (a : List Int) (n : Nat) : iv (a.drop n) = (iv a).drop n := by simp [iv, List.map_drop]
theorem elemAt_iv (l : List Int) (i : Nat) (h : i < l.length) : elemAt (iv l) (i : Int) = [.int .i64 l[i]] := elemAt_map (AVal.int .i64) l i h
theorem iv_noOut (n : Nat) (l : List Int) : noOutL n (iv l) = true := noOutL_map n (fun _ => rfl) l
theorem iv_noTok (n : Nat) (l : List Int) : noTokL n (iv l) = true := noTokL_map n (fun _ => rfl) l
def isI64 : AVal → Bool
  | .int .i64 _ => true
  | _ => false
@[simp] theorem iv_isI64 (l : List Int) : (iv l).all isI64 = true := by simp [iv, isI64]
@[simp] theorem map_intOf_iv (l : List Int) : (iv l).map AVal.intOf = l := by
  simp only [iv, List.map_map]
  conv => rhs; rw [← List.map_id l]
  exact List.map_congr_left fun b _ => rfl
theorem iv_of {es : List AVal} (h : es.all isI64 = true) : es = iv (es.map AVal.intOf) := by
  induction es with
  | nil => rfl
  | cons e es ih =>
    simp only [List.all_cons, Bool.and_eq_true] at h
    have h1 := h.1
    unfold isI64 at h1
    split at h1
    · have := ih h.2
      simp only [iv, List.map_cons] at this ⊢
      rw [← this]
      rfl
    · cases h1
theorem wk_iv {s : Nat} {es : List AVal} (t : Tag) (hn : okW 1 s es = true) (h : es.all isI64 = true) : Wk (.slice es s t) (.slice (iv (es.map AVal.intOf)) 1 .ro) := by
  rw [← iv_of h]
  exact wkW t hn
def strv (l : List (List UInt8)) : List AVal := l.map AVal.str
@[simp] theorem strv_length (l : List (List UInt8)) : (strv l).length = l.length := by simp [strv]
theorem elemAt_strv (l : List (List UInt8)) (i : Nat) (h : i < l.length) : elemAt (strv l) (i : Int) = [.str l[i]] := elemAt_map AVal.str l i h
def bwsV (l : List UInt8) : AVal := .slice (bw l) 1 .ro
def bws (ls : List (List UInt8)) : List AVal := ls.map bwsV
@[simp] theorem bws_length (l : List (List UInt8)) : (bws l).length = l.length := by simp [bws]
theorem elemAt_bws (l : List (List UInt8)) (i : Nat) (h : i < l.length) : elemAt (bws l) (i : Int) = [.slice (bw l[i]) 1 .ro] := elemAt_map bwsV l i h
theorem bws_noOut (n : Nat) (l : List (List UInt8)) : noOutL n (bws l) = true := noOutL_map n (fun x => by simp [bwsV, AVal.noOut, bw_noOut]) l
theorem bws_noTok (n : Nat) (l : List (List UInt8)) : noTokL n (bws l) = true := noTokL_map n (fun x => by simp [bwsV, AVal.noTok, bw_noTok, Tag.below]) l
theorem bws_noLoc (l : List (List UInt8)) : noLocL (bws l) = true := noLocL_map (fun _ => rfl) l
def bytesIs : AVal → Bool
  | .slice es s _ => okW 1 s es && es.all byteIs
  | _ => false
def bytesOfV (v : AVal) : List UInt8 := v.elems.map AL.byteOf
theorem bytesIs_of {v : AVal} (h : bytesIs v = true) : WkL v.cells (bwsV (bytesOfV v)).cells ∧ (bwsV (bytesOfV v)).cells.length = v.cells.length := by
  unfold bytesIs at h
  split at h
  · rename_i es s t
    simp only [Bool.and_eq_true] at h
    exact ⟨.cons (wk_bw t h.1 h.2) (.refl _), rfl⟩
  · cases h
@[simp] theorem map_bytesOfV (ls : List (List UInt8)) : (bws ls).map bytesOfV = ls := by
  simp only [bws, List.map_map]
  conv => rhs; rw [← List.map_id ls]
  exact List.map_congr_left fun b _ => by simp [bytesOfV, bwsV, AVal.elems]
@[simp] theorem bws_is (ls : List (List UInt8)) : (bws ls).all bytesIs = true := by
  simp only [bws, List.all_map, List.all_eq_true]
  intro l _
  simp [bytesIs, bwsV, okW_same]
theorem wk_bws {s : Nat} {es : List AVal} (t : Tag) (hn : okW 1 s es = true) (h : es.all bytesIs = true) : Wk (.slice es s t) (.slice (bws (es.map bytesOfV)) 1 .ro) := by
  rw [bws, List.map_map]
  exact wkW_map t hn fun e he => bytesIs_of (List.all_eq_true.1 h e he)

/-! ### What comes in -/
theorem fits_bw {b : Nat} {a : AVal} (h : Fits (.slice (.int .u8) 1 b) a) : ∃ l : List UInt8, a = bwsV l ∧ l.length * b ≤ 140737488351232 := by
  obtain ⟨es, rfl, h1, h2⟩ := h
  have : es.all byteIs = true := by
    rw [List.all_eq_true]
    intro x hx
    obtain ⟨n, rfl, h3, h4⟩ := h2 x hx
    have h3 : 0 ≤ n := h3
    have h4 : n ≤ 255 := h4
    simp [byteIs, h3]; omega
  refine ⟨es.map AL.byteOf, ?_, by simpa using h1⟩
  conv => lhs; rw [bw_of this]
  rfl
theorem fits_bws {b : Nat} {a : AVal} (h : Fits (.slice (.slice (.int .u8) 1 1) 1 b) a) : ∃ ls : List (List UInt8), a = .slice (bws ls) 1 .ro ∧ ls.length * b ≤ 140737488351232 ∧ ∀ l ∈ ls, l.length ≤ 140737488351232 := by
  obtain ⟨es, rfl, h1, h2⟩ := h
  obtain ⟨ls, rfl, hx⟩ := map_of (f := bwsV) (P := fun l => l.length ≤ 140737488351232) fun e he => by
    obtain ⟨l, h3, h4⟩ := fits_bw (h2 e he)
    exact ⟨l, h3, by omega⟩
  exact ⟨ls, rfl, by simpa using h1, hx⟩
theorem fits_iv {b : Nat} {a : AVal} (h : Fits (.slice (.int .i64) 1 b) a) : ∃ l : List Int, a = .slice (iv l) 1 .ro ∧ l.length * b ≤ 140737488351232 ∧ ∀ n ∈ l, -9223372036854775808 ≤ n ∧ n ≤ 9223372036854775807 := by
  obtain ⟨es, rfl, h1, h2⟩ := h
  obtain ⟨ls, rfl, hx⟩ := map_of (f := AVal.int .i64) (P := fun n => -9223372036854775808 ≤ n ∧ n ≤ 9223372036854775807) fun e he => by
    obtain ⟨n, h3, h4, h5⟩ := h2 e he
    exact ⟨n, h3, h4, h5⟩
  exact ⟨ls, rfl, by simpa using h1, hx⟩

/-! ### Contracts over the empty store -/
theorem pcall_of {P : Program} {f : FuncId} {args args' : List AVal} {v : AVal} (hw : WkL args args') (h : ACall P f args' Sto.empty fun r _ => Wk r v) (ho : noOutL 0 args' = true) (ht : noTokL 0 args' = true) (hv : v.noOut 0 = true) (hv2 : v.noTok 0 = true) : PCall P f args v := by
  intro σ
  refine ACall.args ?_ hw
  have hs := sealL_noTok args' ht
  exact ACall.ofEmpty (by rw [hs]; exact h) (by rw [hs]; exact ho) hv hv2 (fun r τ hq => hq) σ
/-! ### Stores -/
theorem set_set (σ : Sto) (o : Nat) (x y : AObj) : (σ.set o x).set o y = σ.set o y := by
  simp only [Sto.set, Sto.mk.injEq, true_and, and_true]
  funext n; split <;> rfl
theorem set_setOwn (σ : Sto) (o p n : Nat) (x : AObj) : (σ.setOwn p n).set o x = (σ.set o x).setOwn p n := rfl
theorem setOwn_setOwn (σ : Sto) (p n m : Nat) : (σ.setOwn p n).setOwn p m = σ.setOwn p m := by
  simp only [Sto.setOwn, Sto.mk.injEq, true_and]
  funext q; split <;> rfl
theorem set_same {σ : Sto} {o : Nat} {x : AObj} (h : σ.obj o = some x) : σ.set o x = σ := by
  cases σ with
  | mk a b c d =>
    simp only [Sto.set, Sto.mk.injEq, true_and, and_true]
    funext n
    split
    · rename_i e; subst e; exact h.symm
    · rfl
theorem setOwn_same {σ : Sto} {p n : Nat} (h : σ.own p = some n) : σ.setOwn p n = σ := by
  cases σ with
  | mk a b c d =>
    simp only [Sto.setOwn, Sto.mk.injEq, true_and]
    funext q
    split
    · rename_i e; subst e; exact h.symm
    · rfl

/-! ### Permissions that are given up -/
theorem ACall.dropOwn {P : Program} {f : FuncId} {args : List AVal} {σ : Sto} {Q : AVal → Sto → Prop}
    (h : ACall P f args σ fun r τ => ∃ ow : Nat → Option Nat, (∀ p k, ow p = some k → τ.own p = some k) ∧ Q r { τ with own := ow }) : ACall P f args σ Q := by
  intro γ w vs hi hr
  refine (h γ w vs hi hr).mono fun e w' ⟨v, r, γ', τ, he, hrep, hinv, hev, ow, h1, hq⟩ => ?_
  refine ⟨v, r, γ', { τ with own := ow }, he, hrep, ?_, ?_, hq⟩
  · exact ⟨hinv.imm, hinv.obj, hinv.inj, fun p n hp => hinv.own p n (h1 p n hp), fun p q n m b hp hq => hinv.ownInj p q n m b (h1 p n hp) (h1 q m hq), fun i x p n b hx hp => hinv.apart i x p n b hx (h1 p n hp), hinv.freshO, hinv.freshW, hinv.amb⟩
  · refine ⟨hev.os, hev.tape, hev.output, hev.size, hev.old, hev.ext, hev.new, fun b hb => hev.mutd b ?_⟩
    rcases hb with ⟨i, x, hx, hbi⟩ | ⟨p, k, hp, hbp⟩
    · exact .inl ⟨i, x, hx, hbi⟩
    · exact .inr ⟨p, k, h1 p k hp, hbp⟩
end Go.AL
end

section
namespace Go.AL
set_option linter.unusedSimpArgs false
set_option linter.unusedVariables false

/-! ### Rows, as they read -/
mutual
def viewA (ob : Nat → Option AObj) : AVal → AVal
  | .mrow k _ => match ob k with
    | some (.buf es s _) => .slice es s .ro
    | _ => .undef
  | .agg cs => .agg (viewL ob cs)
  | .tuple vs => .tuple (viewL ob vs)
  | a => a
def viewL (ob : Nat → Option AObj) : List AVal → List AVal
  | [] => []
  | a :: as => viewA ob a :: viewL ob as
end
mutual
noncomputable def viewOk (ob : Nat → Option AObj) : AVal → Bool
  | .mrow k len => match ob k with
    | some (.buf es _ g) => Nat.beq g (k + 1) && (hold (decide (len = es.length)) && (noOutL 0 es && noTokL 0 es))
    | _ => false
  | .agg cs => viewOkL ob cs
  | .tuple vs => viewOkL ob vs
  | a => a.noOut 0 && a.noTok 0
noncomputable def viewOkL (ob : Nat → Option AObj) : List AVal → Bool
  | [] => true
  | a :: as => viewOk ob a && viewOkL ob as
end
mutual
def AVal.hasRow : AVal → Bool
  | .mrow _ _ => true
  | .agg cs => hasRowL cs
  | .tuple vs => hasRowL vs
  | _ => false
def hasRowL : List AVal → Bool
  | [] => false
  | a :: as => a.hasRow || hasRowL as
end
mutual
/-- Nothing but numbers, texts, truth values. -/
def AVal.plain : AVal → Bool
  | .bool _ => true
  | .int _ _ => true
  | .str _ => true
  | .agg cs => plainL cs
  | .tuple vs => plainL vs
  | _ => false
def plainL : List AVal → Bool
  | [] => true
  | a :: as => a.plain && plainL as
end

mutual
theorem Rep.plain {γ γ2 : Gh} {w w2 : World} {l : Bool} : ∀ {a : AVal} {u : Value}, Rep γ w l a u → a.plain = true → Rep γ2 w2 l a u
  | .bool _, _, .bool _ _, _ => .bool _ _
  | .int _ _, _, .int _ _ _, _ => .int _ _ _
  | .str _, _, .str _ _, _ => .str _ _
  | .agg _, _, .agg h h1, e => .agg (RepL.plain h (by simpa [AVal.plain] using e)) h1
  | .tuple _, _, .tuple h, e => .tuple (RepL.plain h (by simpa [AVal.plain] using e))
theorem RepL.plain {γ γ2 : Gh} {w w2 : World} {l : Bool} : ∀ {as : List AVal} {us : List Value}, RepL γ w l as us → plainL as = true → RepL γ2 w2 l as us
  | [], _, .nil _, _ => .nil _
  | _ :: _, _, .cons h t, e => by
    simp only [plainL, Bool.and_eq_true] at e
    exact .cons (Rep.plain h e.1) (RepL.plain t e.2)
end

/-- The ghost under which the rows of a store never change, and nothing else is known. -/
def Gh.view (γ : Gh) (w : World) (σ : Sto) : Gh where
  imm := fun b o => γ.imm b o ∨ ((∃ v, w.cell? ⟨b, o, none⟩ = some v) ∧ ∃ k es s g, σ.obj k = some (.buf es s g) ∧ γ.obj (.out k) = some b)
  obj := fun _ => none
  own := fun _ => .free

theorem Ext.cut0 {γ γ2 : Gh} {w : World} (h : ∀ b o, γ.imm b o → γ2.imm b o) : Ext false (γ.cut 0 0) w γ2 w :=
  ⟨fun b o hb => ⟨h b o hb, rfl⟩, (fun i b hl hb => by
    cases i with
    | loc k => simp [Oid.isOut] at hl
    | out k => rw [cut0_obj] at hb; cases hb), fun p => by rw [cut0_own]; trivial⟩

theorem RepL.closed {γ γ2 : Gh} {w : World} {as : List AVal} {us : List Value} (h : RepL γ w false as us) (h1 : noOutL 0 as = true) (h2 : noTokL 0 as = true) (hi : ∀ b o, γ.imm b o → γ2.imm b o) : RepL γ2 w false as us := by
  have e := sealL_noTok as h2
  have := RepL.cut (n := 0) (m := 0) h (by rw [e]; exact h1)
  rw [e] at this
  exact RepL.mono (Ext.cut0 hi) this
theorem Rep.closed {γ γ2 : Gh} {w : World} {a : AVal} {u : Value} (h : Rep γ w false a u) (h1 : a.noOut 0 = true) (h2 : a.noTok 0 = true) (hi : ∀ b o, γ.imm b o → γ2.imm b o) : Rep γ2 w false a u := by
  have e := seal_noTok a h2
  have := Rep.cut (n := 0) (m := 0) h (by rw [e]; exact h1)
  rw [e] at this
  exact Rep.mono (Ext.cut0 hi) this

mutual
theorem Rep.view {γ : Gh} {w : World} {σ : Sto} (hi : Inv γ w σ.O σ.own σ.nobj σ.nown) : ∀ {a : AVal} {u : Value}, Rep γ w false a u → viewOk σ.obj a = true → Rep (γ.view w σ) w false (viewA σ.obj a) u
  | .mrow k len, _, .mrow (cap := cap) (a := ad) hc hn hb, e => by
    unfold viewOk at e
    unfold viewA
    split at e
    · rename_i es s g hk
      simp only [Bool.and_eq_true, hold_eq, decide_eq_true_eq] at e
      obtain ⟨e1, rfl, e2, e3⟩ := e
      have e1 := Nat.eq_of_beq_eq_true e1
      subst e1
      by_cases h0 : cap = 0
      · subst h0
        have hes : es = [] := List.eq_nil_of_length_eq_zero (by omega)
        subst hes
        exact .sliceNil trivial (.inr rfl)
      · obtain ⟨b, rfl, hb2⟩ := hb (by omega)
        obtain ⟨vs, junk, T, cap', h1, h2, h3, h4, h5, h6, h7, h8, h9⟩ := hi.objb (i := .out k) hk hb2
        rw [hc] at h5
        cases h5
        have hlv := h2.length
        refine .sliceRow (RepL.closed h2 (by rw [noOut_flat]; exact e2) (by rw [noTok_flat]; exact e3) fun b o h => .inl h) h3 (fun j v hj => ?_) (fun v hv => h4 v (List.mem_append_left _ hv)) hn h8 trivial
        have hlt : j < vs.length := (List.getElem?_eq_some_iff.1 hj).1
        have hcell : w.cell? ⟨b, 0 + j, none⟩ = some v := by
          simp only [World.cell?, h1, Nat.zero_add]
          simp only [Option.isSome_none, Bool.false_eq_true, if_false]
          rw [List.getElem?_toArray, List.getElem?_append_left hlt]
          exact hj
        exact ⟨.inr ⟨⟨v, hcell⟩, k, es, s, _, hk, hb2⟩, hcell⟩
    · cases e
  | .agg cs, _, .agg h h1, e => by
    unfold viewOk at e
    unfold viewA
    exact .agg (RepL.view hi h e) h1
  | .tuple cs, _, .tuple h, e => by
    unfold viewOk at e
    unfold viewA
    exact .tuple (RepL.view hi h e)
  | .undef, _, h, e => by simp only [viewOk, Bool.and_eq_true] at e; exact Rep.closed h e.1 e.2 fun b o h => .inl h
  | .bool _, _, h, e => by simp only [viewOk, Bool.and_eq_true] at e; exact Rep.closed h e.1 e.2 fun b o h => .inl h
  | .int _ _, _, h, e => by simp only [viewOk, Bool.and_eq_true] at e; exact Rep.closed h e.1 e.2 fun b o h => .inl h
  | .str _, _, h, e => by simp only [viewOk, Bool.and_eq_true] at e; exact Rep.closed h e.1 e.2 fun b o h => .inl h
  | .slice _ _ _, _, h, e => by simp only [viewOk, Bool.and_eq_true] at e; exact Rep.closed h e.1 e.2 fun b o h => .inl h
  | .arr _ _ _ _, _, h, e => by simp only [viewOk, Bool.and_eq_true] at e; exact Rep.closed h e.1 e.2 fun b o h => .inl h
  | .iptr _, _, h, e => by simp only [viewOk, Bool.and_eq_true] at e; exact Rep.closed h e.1 e.2 fun b o h => .inl h
  | .ptr _ _, _, h, e => by simp only [viewOk, Bool.and_eq_true] at e; exact Rep.closed h e.1 e.2 fun b o h => .inl h
  | .nilptr, _, h, e => by simp only [viewOk, Bool.and_eq_true] at e; exact Rep.closed h e.1 e.2 fun b o h => .inl h
  | .map _, _, h, e => by simp only [viewOk, Bool.and_eq_true] at e; exact Rep.closed h e.1 e.2 fun b o h => .inl h
  | .nilmap, _, h, e => by simp only [viewOk, Bool.and_eq_true] at e; exact Rep.closed h e.1 e.2 fun b o h => .inl h
  | .func _ _ _, _, h, e => by simp only [viewOk, Bool.and_eq_true] at e; exact Rep.closed h e.1 e.2 fun b o h => .inl h
  | .nilfunc, _, h, e => by simp only [viewOk, Bool.and_eq_true] at e; exact Rep.closed h e.1 e.2 fun b o h => .inl h
  | .iface _ _, _, h, e => by simp only [viewOk, Bool.and_eq_true] at e; exact Rep.closed h e.1 e.2 fun b o h => .inl h
  | .nilIface, _, h, e => by simp only [viewOk, Bool.and_eq_true] at e; exact Rep.closed h e.1 e.2 fun b o h => .inl h
theorem RepL.view {γ : Gh} {w : World} {σ : Sto} (hi : Inv γ w σ.O σ.own σ.nobj σ.nown) : ∀ {as : List AVal} {us : List Value}, RepL γ w false as us → viewOkL σ.obj as = true → RepL (γ.view w σ) w false (viewL σ.obj as) us
  | [], _, .nil _, _ => .nil _
  | _ :: _, _, .cons h t, e => by
    simp only [viewOkL, Bool.and_eq_true] at e
    exact .cons (Rep.view hi h e.1) (RepL.view hi t e.2)
end

theorem Inv.emptyOf {γ : Gh} {w : World} (h1 : ∀ b o, γ.imm b o → b < w.heap.size) (h2 : ∀ n, γ.obj (.out n) = none) (h3 : ∀ p, γ.own p = .free) (h4 : Amb γ w) : Inv γ w Sto.empty.O Sto.empty.own Sto.empty.nobj Sto.empty.nown :=
  ⟨h1, fun i x hx => (top_none i x hx).elim, fun i j x y b hx => (top_none i x hx).elim, fun p n hp => (by cases hp), fun p q n m b hp => (by cases hp), fun i x p n b hx => (top_none i x hx).elim, fun n _ => h2 n, fun p _ => h3 p, h4⟩

theorem Inv.viewOf {γ : Gh} {w : World} {σ : Sto} (hi : Inv γ w σ.O σ.own σ.nobj σ.nown) : Inv (γ.view w σ) w Sto.empty.O Sto.empty.own Sto.empty.nobj Sto.empty.nown :=
  Inv.emptyOf (fun b o h => h.elim (hi.imm b o) (fun h => h.1.elim fun _ hv => World.block_lt_of_cell? w ⟨b, o, none⟩ hv)) (fun _ => rfl) (fun _ => rfl) ⟨hi.amb.1, fun x hx => .inl (hi.amb.2.1 x hx), fun x hx => .inl (hi.amb.2.2.1 x hx), fun x hx o ho => .inl (hi.amb.2.2.2 x hx o ho)⟩

/-- A CALL THAT ONLY READS, AND ANSWERS NUMBERS, TEXTS, TRUTH VALUES, READS MUTABLE ROWS AS ROWS THAT NEVER CHANGE. -/
theorem PCall.view {P : Program} {f : FuncId} {xs : List AVal} {v : AVal} {σ : Sto} (h : PCall P f (viewL σ.obj xs) v) (hok : viewOkL σ.obj xs = true) (hp : v.plain = true) : ACall P f xs σ fun r τ => r = v ∧ τ = σ := by
  intro γ w vs hi hr
  refine (h Sto.empty (γ.view w σ) w vs hi.viewOf (RepL.view hi hr hok)).mono fun e w' ⟨u, r, γ', τ, he, hrep, hinv, hev, hr1, hτ⟩ => ?_
  subst hr1
  have hmut : ∀ b, ¬ Mut (γ.view w σ) Sto.empty.O Sto.empty.own b := fun b hb => by
    rcases hb with ⟨i, x, hx, _⟩ | ⟨p, n, hp, _⟩
    · exact top_none i x hx
    · cases hp
  have hold : ∀ b, b < w.heap.size → w'.heap[b]? = w.heap[b]? := fun b hb => hev.old b hb (hmut b)
  have e1 : ∀ l, Ext l γ w γ w' := fun l => ⟨fun b o hb => ⟨hb, cell?_heap (hold b (hi.imm_lt hb))⟩, fun _ _ _ h => h, fun p => OwnStep.refl _⟩
  refine ⟨u, r, γ, σ, he, Rep.plain hrep hp, ?_, ?_, rfl, rfl⟩
  · refine ⟨fun b o hb => ?_, fun i x hx => ?_, hi.inj, fun p n hp => ?_, hi.ownInj, hi.apart, hi.freshO, hi.freshW, hi.amb.mono (e1 true) hev.size⟩
    · exact Nat.lt_of_lt_of_le (hi.imm b o hb) hev.size
    · rcases hi.obj i x hx with h1 | ⟨b, hb, hok⟩
      · exact .inl h1
      exact .inr ⟨b, hb, hok.mono (e1 _) (hold b hok.lt) hok.notImm⟩
    · have hok := hi.own p n hp
      exact hok.mono (fun b hb => hold b (hok.lt hb)) (fun b o hb ho => ho)
  · exact ⟨hev.os, hev.tape, hev.output, hev.size, fun b hb _ => hold b hb, e1 false, fun b o hb => .inl hb, fun b hb => .inl hb⟩

noncomputable section
/-- What is told of a call that reads mutable rows. -/
def roAns (ok : Bool) (σ : Sto) : Ans → Ans
  | .pure c v => .full (ok && (c && v.plain)) v σ
  | .nm x f => .nm x fun y => roAns ok σ (f y)
  | .br b x y => .br b (roAns ok σ x) (roAns ok σ y)
  | _ => .pure false .undef
def roE (e : Ent) : Ent := (e.1, fun xs σ =>
  match hasRowL xs with
  | false => e.2 xs σ
  | true => match e.2 (viewL σ.obj xs) Sto.empty with
    | some a => some (roAns (viewOkL σ.obj xs) σ a)
    | none => none)
end

theorem roAns_ok {P : Program} {g : FuncId} {xs : List AVal} {σ : Sto} : ∀ (a : Ans), ansOk P g (viewL σ.obj xs) Sto.empty a → ansOk P g xs σ (roAns (viewOkL σ.obj xs) σ a) := by
  intro a
  induction a with
  | pure c v =>
    intro h hc
    simp only [Bool.and_eq_true] at hc
    exact PCall.view (h hc.2.1) hc.1 hc.2.2
  | own c v ow nw => intro _ hc; cases hc
  | full c v σ' => intro _ hc; cases hc
  | nm x f ih => intro h; exact ih x h
  | br b x y ihx ihy => intro h; exact ⟨fun e => ihx (h.1 e), fun e => ihy (h.2 e)⟩

theorem roE_ok {P : Program} {e : Ent} (h : EntOk P e) : EntOk P (roE e) := by
  intro xs σ
  simp only [roE]
  split
  · exact h xs σ
  · have := h (viewL σ.obj xs) Sto.empty
    split
    · rename_i a ha
      rw [ha] at this
      unfold AnsOk at this ⊢
      exact roAns_ok a this
    · trivial

/-! ### Rows, frozen at a call's end -/

/-- WHAT IS MADE OF MUTABLE ROWS IS FROZEN WHEN IT IS HANDED BACK. -/
theorem PCall.ofRows {P : Program} {f : FuncId} {args args' : List AVal} {v : AVal} (hw : WkL args args') (h : ACall P f args' Sto.empty fun r τ => ∃ r1, Wk r r1 ∧ viewOk τ.obj r1 = true ∧ Wk (viewA τ.obj r1) v)
    (ho : noOutL 0 args' = true) (ht : noTokL 0 args' = true) (hv : v.noOut 0 = true) (hv2 : v.noTok 0 = true) : PCall P f args v := by
  intro σ
  refine ACall.args ?_ hw
  intro γ w vs hi hr
  have hr0 : RepL (γ.cut 0 0) w false args' vs := by
    have e := sealL_noTok args' ht
    have := RepL.cut (n := 0) (m := 0) hr (by rw [e]; exact ho)
    rwa [e] at this
  have hi0 : Inv (γ.cut 0 0) w Sto.empty.O Sto.empty.own Sto.empty.nobj Sto.empty.nown := Inv.emptyOf hi.imm (cut0_obj γ) (cut0_own γ) hi.amb
  refine (h (γ.cut 0 0) w vs hi0 hr0).mono fun e w' ⟨u, r, γ', τ, he, hrep, hinv, hev, r1, q1, q2, q3⟩ => ?_
  have hmut : ∀ b, ¬ Mut (γ.cut 0 0) Sto.empty.O Sto.empty.own b := fun b hb => by
    rcases hb with ⟨i, x, hx, _⟩ | ⟨p, n, hp, _⟩
    · exact top_none i x hx
    · cases hp
  have hold : ∀ b, b < w.heap.size → w'.heap[b]? = w.heap[b]? := fun b hb => hev.old b hb (hmut b)
  have hfz : ∀ b o, (γ'.view w' τ).imm b o → γ.imm b o ∨ w.heap.size ≤ b := fun b o hi' => by
    rcases hi' with h1 | ⟨_, k, es, s, g, hk, hb⟩
    · rcases hev.new b o h1 with h2 | h2 | h2
      · exact .inl h2
      · exact .inr h2
      · exact (hmut b h2).elim
    · rcases hev.mutd b (.inl ⟨.out k, _, hk, hb⟩) with h2 | h2
      · exact (hmut b h2).elim
      · exact .inr h2
  have hnew : ∀ b o, b < w.heap.size → (γ'.view w' τ).imm b o → γ.imm b o := fun b o hb hi' => (hfz b o hi').elim id (fun h => by omega)
  have e1 : ∀ l, Ext l γ w { γ with imm := (γ'.view w' τ).imm } w' := fun l => ⟨fun b o hb => ⟨.inl (hev.ext.imm b o hb).1, (hev.ext.imm b o hb).2⟩, fun _ _ _ h => h, fun p => OwnStep.refl _⟩
  have hrv : Rep (γ'.view w' τ) w' false v u := q3 _ _ _ _ (Rep.view hinv (q1 _ _ _ _ hrep) q2)
  refine ⟨u, v, { γ with imm := (γ'.view w' τ).imm }, σ, he, Rep.closed hrv hv hv2 (fun b o h => h), ?_, ?_, rfl, rfl⟩
  · refine ⟨fun b o hb => ?_, fun i x hx => ?_, hi.inj, fun p n hp => ?_, hi.ownInj, hi.apart, hi.freshO, hi.freshW, hi.amb.mono (e1 true) hev.size⟩
    · exact hb.elim (hinv.imm b o) (fun h => h.1.elim fun _ hv => World.block_lt_of_cell? w' ⟨b, o, none⟩ hv)
    · rcases hi.obj i x hx with h1 | ⟨b, hb, hok⟩
      · exact .inl h1
      exact .inr ⟨b, hb, hok.mono (e1 _) (hold b hok.lt) (fun o ho => hok.notImm o (hnew b o hok.lt ho))⟩
    · have hok := hi.own p n hp
      exact hok.mono (fun b hb => hold b (hok.lt hb)) (fun b o hb ho => hnew b o (hok.lt hb) ho)
  · exact ⟨hev.os, hev.tape, hev.output, hev.size, fun b hb _ => hold b hb, e1 false, fun b o hb => (hfz b o hb).imp_right .inl, fun b hb => .inl hb⟩

/-! ### A row is made -/

def Sto.pushRow (σ : Sto) (es : List AVal) (s : Nat) : Sto := { σ with nobj := σ.nobj + 2, obj := fun n => if n = σ.nobj then some (.buf es s (σ.nobj + 1)) else σ.obj n }
def Sto.del (σ : Sto) (k : Nat) : Sto := { σ with obj := fun n => if n = k then none else σ.obj n }
def Sto.one (x : AObj) : Sto := { nobj := 1, obj := fun n => if n = 0 then some x else none, nown := 0, own := fun _ => none }

theorem hole.setGh {γ : Gh} {i : Oid} {x : AObj} (h : hole γ i x) {n : Nat} {y : Option Nat} (hf : γ.obj (.out n) = none) (hi : i ≠ .out n) : hole (γ.setObj (.out n) y) i x := by
  obtain ⟨j, s, h1, h2, h3, h4⟩ := h
  subst h1
  have e1 : j ≠ n := fun e => hi (by rw [e])
  have e2 : j + 1 ≠ n := fun e => by rw [e, hf] at h4; cases h4
  exact ⟨j, s, rfl, h2, by simpa [Gh.setObj, e1] using h3, by simpa [Gh.setObj, e2] using h4⟩

/-- A NEW ARRAY, OR NONE, IS A MUTABLE ROW. -/
theorem ACall.closeRow {P : Program} {f : FuncId} {args : List AVal} {σ : Sto} {es : List AVal} {s : Nat} (hs : 0 < s) (hes : ∀ e ∈ es, e.cells.length = s)
    (h : ACall P f args σ fun r τ => (es = [] ∧ τ = σ ∧ ∃ s', r = .slice [] s' .nil ∨ r = .slice [] s' .full) ∨
      ∃ k jk, r = .arr (.out σ.nobj) 0 es.length (es.length + k) ∧ τ = σ.push (.cells (flat es ++ jk)) ∧ jk.length = k * s ∧ es.length + k ≤ 9223372036854775807) :
    ACall P f args σ fun r τ => r = .mrow σ.nobj es.length ∧ τ = σ.pushRow es s := by
  intro γ w vs hi hr
  refine (h γ w vs hi hr).mono fun e w' ⟨u, r, γ', τ, he, hrep, hinv, hev, hq⟩ => ?_
  rcases hq with ⟨rfl, rfl, s', hr1⟩ | ⟨k, jk, rfl, rfl, hjk, hmax⟩
  · -- no row
    obtain ⟨a, rfl⟩ : ∃ a, u = .slice a 0 0 := by
      have key : ∀ t, r = .slice [] s' t → (t = .nil ∨ t = .full) → ∃ a, u = .slice a 0 0 := by
        intro t hrt ht
        subst hrt
        generalize hel : ([] : List AVal) = el at hrep
        cases hrep with
        | sliceRow hr hs hc h1 hnc hm htr =>
          subst hel
          rcases ht with rfl | rfl
          · exact htr.elim
          · simp only [AL.tagRow, List.length_nil] at htr
            subst htr
            exact ⟨_, rfl⟩
        | sliceNil _ _ => exact ⟨_, rfl⟩
      rcases hr1 with hr1 | hr1
      · exact key _ hr1 (.inl rfl)
      · exact key _ hr1 (.inr rfl)
    have hf0 := hinv.freshO τ.nobj (Nat.le_refl _)
    have hf1 := hinv.freshO (τ.nobj + 1) (by omega)
    have eO : ∀ i, (τ.pushRow [] s).O i = if i = .out τ.nobj then some (.buf [] s (τ.nobj + 1)) else τ.O i := fun i => by cases i <;> simp [Sto.O, Sto.pushRow]
    have e : ∀ l, Ext l γ' w' (γ'.setObj (.out (τ.nobj + 1)) (some 0)) w' := fun l => ⟨fun b o hb => ⟨hb, rfl⟩, fun i b _ hb => by
      have : i ≠ .out (τ.nobj + 1) := by rintro rfl; rw [hf1] at hb; cases hb
      simpa [Gh.setObj, this] using hb, fun p => OwnStep.refl _⟩
    have hne : ∀ i x, (τ.pushRow [] s).O i = some x → i ≠ .out (τ.nobj + 1) := fun i x hx hi1 => by
      subst hi1
      rw [eO] at hx
      simp at hx
      rcases hinv.obj _ _ hx with ⟨j, s2, g1, g2, g3, g4⟩ | ⟨b, hb, _⟩
      · cases g1
        rw [hinv.freshO (τ.nobj + 1 + 1) (by omega)] at g4; cases g4
      · rw [hf1] at hb; cases hb
    have hgo : ∀ i, i ≠ .out (τ.nobj + 1) → (γ'.setObj (.out (τ.nobj + 1)) (some 0)).obj i = γ'.obj i := fun i hi1 => by simp [Gh.setObj, hi1]
    have hold : ∀ i x b, (τ.pushRow [] s).O i = some x → (γ'.setObj (.out (τ.nobj + 1)) (some 0)).obj i = some b → τ.O i = some x ∧ γ'.obj i = some b := fun i x b hx hb => by
      rw [hgo i (hne i x hx)] at hb
      rw [eO] at hx
      split at hx
      · rename_i e1; subst e1; rw [hf0] at hb; cases hb
      · exact ⟨hx, hb⟩
    refine ⟨.slice a 0 0, .mrow τ.nobj 0, γ'.setObj (.out (τ.nobj + 1)) (some 0), τ.pushRow [] s, he, .mrow (cap := 0) (by simp [Gh.setObj]) (Nat.le_refl _) (fun h => by omega), ?_, ?_, rfl, rfl⟩
    · refine ⟨hinv.imm, fun i x hx => ?_, fun i j x y b hx hy hbi hbj => ?_, hinv.own, hinv.ownInj, fun i x p n b hx hp hbi hbp => ?_, fun n hn => ?_, hinv.freshW, hinv.amb⟩
      · have hx0 := hx
        rw [eO] at hx
        split at hx
        · rename_i e1
          cases hx
          exact .inl ⟨τ.nobj, s, e1, rfl, by simpa [Gh.setObj] using hf0, by simp [Gh.setObj]⟩
        · rename_i e1
          rcases hinv.obj i x hx with h1 | ⟨b, hb, hok⟩
          · exact .inl (h1.setGh hf1 (hne i x hx0))
          · exact .inr ⟨b, by rw [hgo i (hne i x hx0)]; exact hb, hok.mono (e _) rfl hok.notImm⟩
      · obtain ⟨h1, h2⟩ := hold i x b hx hbi
        obtain ⟨h3, h4⟩ := hold j y b hy hbj
        exact hinv.inj i j x y b h1 h3 h2 h4
      · obtain ⟨h1, h2⟩ := hold i x b hx hbi
        exact hinv.apart i x p n b h1 hp h2 hbp
      · have hn : τ.nobj + 2 ≤ n := hn
        have := hinv.freshO n (by omega)
        have hne : n ≠ τ.nobj + 1 := by omega
        simpa [Gh.setObj, hne] using this
    · refine hev.trans ⟨rfl, rfl, rfl, Nat.le_refl _, fun _ _ _ => rfl, e false, fun b o hb => .inl hb, fun b hb => .inl ?_⟩
      rcases hb with ⟨i, x, hx, hbi⟩ | hb
      · obtain ⟨h1, h2⟩ := hold i x b hx hbi
        exact .inl ⟨i, x, h1, h2⟩
      · exact .inr hb
  · -- an array
    cases hrep with
    | @arr _ _ _ off' _ _ b hb hoo hnc h0 =>
      have hpush : (σ.push (.cells (flat es ++ jk))).O (.out σ.nobj) = some (.cells (flat es ++ jk)) := by simp [Sto.O, Sto.push]
      obtain ⟨ws, T, hh, hrw, h1w, hni⟩ := hinv.objb hpush hb
      have hsplit := RepL.split hrw
      have hlf := flat_length hes
      have hlw := hrw.length
      have hf1 := hinv.freshO (σ.nobj + 1) (Nat.le_refl _)
      have eO : ∀ i, (σ.pushRow es s).O i = if i = .out σ.nobj then some (.buf es s (σ.nobj + 1)) else (σ.push (.cells (flat es ++ jk))).O i := fun i => by
        cases i with
        | loc k => rfl
        | out k => by_cases h : k = σ.nobj <;> simp [Sto.O, Sto.pushRow, Sto.push, h]
      have e : ∀ l, Ext l γ' w' (γ'.setObj (.out (σ.nobj + 1)) (some (es.length + k))) w' := fun l => ⟨fun b o hb => ⟨hb, rfl⟩, fun i b _ hb => by
        have : i ≠ .out (σ.nobj + 1) := by rintro rfl; rw [hf1] at hb; cases hb
        simpa [Gh.setObj, this] using hb, fun p => OwnStep.refl _⟩
      have hgo : ∀ i, i ≠ .out (σ.nobj + 1) → (γ'.setObj (.out (σ.nobj + 1)) (some (es.length + k))).obj i = γ'.obj i := fun i hi1 => by simp [Gh.setObj, hi1]
      have hne : ∀ i x, (σ.pushRow es s).O i = some x → i ≠ .out (σ.nobj + 1) := fun i x hx hi1 => by
        subst hi1
        rw [eO] at hx
        simp at hx
        rcases hinv.obj _ _ hx with ⟨j, s2, g1, g2, g3, g4⟩ | ⟨b, hb, _⟩
        · cases g1
          have hq := hinv.freshO (σ.nobj + 1 + 1) (by simp [Sto.push])
          rw [hq] at g4; cases g4
        · rw [hf1] at hb; cases hb
      have hold : ∀ i x b', (σ.pushRow es s).O i = some x → (γ'.setObj (.out (σ.nobj + 1)) (some (es.length + k))).obj i = some b' → ∃ y, (σ.push (.cells (flat es ++ jk))).O i = some y ∧ γ'.obj i = some b' := fun i x b' hx hb' => by
        rw [hgo i (hne i x hx)] at hb'
        rw [eO] at hx
        split at hx
        · rename_i e1; subst e1; exact ⟨_, hpush, hb'⟩
        · exact ⟨x, hx, hb'⟩
      refine ⟨_, .mrow σ.nobj es.length, γ'.setObj (.out (σ.nobj + 1)) (some (es.length + k)), σ.pushRow es s, he, .mrow (cap := es.length + k) (by simp [Gh.setObj]) (by omega) (fun h => ⟨b, by rw [h0 h], by rw [hgo _ (by simp)]; exact hb⟩), ?_, ?_, rfl, rfl⟩
      · refine ⟨hinv.imm, fun i x hx => ?_, fun i j x y b' hx hy hbi hbj => ?_, hinv.own, hinv.ownInj, fun i x p n b' hx hp hbi hbp => ?_, fun n hn => ?_, hinv.freshW, hinv.amb⟩
        · have hx0 := hx
          rw [eO] at hx
          split at hx
          · rename_i e1
            subst e1
            cases hx
            refine .inr ⟨b, by rw [hgo _ (by simp)]; exact hb, ws.take (flat es).length, ws.drop (flat es).length, T, es.length + k, by rw [List.take_append_drop]; exact hh, RepL.mono (e _) hsplit.1, hes, fun v hv => ?_, by simp [Gh.setObj], ?_, hs, ?_, hni⟩
            · rw [List.take_append_drop] at hv; exact h1w v hv
            · rw [List.take_append_drop, ← hlw, List.length_append, hlf, hjk, Nat.add_mul]
            · simp [maxLen]; omega
          · rename_i e1
            rcases hinv.obj i x hx with h1 | ⟨b', hb', hok⟩
            · exact .inl (h1.setGh hf1 (hne i x hx0))
            · exact .inr ⟨b', by rw [hgo i (hne i x hx0)]; exact hb', hok.mono (e _) rfl hok.notImm⟩
        · obtain ⟨y1, h1, h2⟩ := hold i x b' hx hbi
          obtain ⟨y2, h3, h4⟩ := hold j y b' hy hbj
          exact hinv.inj i j y1 y2 b' h1 h3 h2 h4
        · obtain ⟨y1, h1, h2⟩ := hold i x b' hx hbi
          exact hinv.apart i y1 p n b' h1 hp h2 hbp
        · have hn : σ.nobj + 2 ≤ n := hn
          have hq := hinv.freshO n (by simp only [Sto.push]; omega)
          have hne : n ≠ σ.nobj + 1 := by omega
          simpa [Gh.setObj, hne] using hq
      · refine hev.trans ⟨rfl, rfl, rfl, Nat.le_refl _, fun _ _ _ => rfl, e false, fun b o hb => .inl hb, fun b' hb' => .inl ?_⟩
        rcases hb' with ⟨i, x, hx, hbi⟩ | hb'
        · obtain ⟨y1, h1, h2⟩ := hold i x b' hx hbi
          exact .inl ⟨i, y1, h1, h2⟩
        · exact .inr hb'

/-! ### A row is used up -/

theorem ACall.drop {P : Program} {f : FuncId} {args : List AVal} {σ : Sto} {v : AVal} (h : ACall P f args σ fun r τ => r = v ∧ τ = σ) (k : Nat) : ACall P f args σ fun r τ => r = v ∧ τ = σ.del k := by
  intro γ w vs hi hr
  refine (h γ w vs hi hr).mono fun e w' ⟨u, r, γ', τ, he, hrep, hinv, hev, h1, h2⟩ => ?_
  subst h2
  have hO : ∀ i x, (τ.del k).O i = some x → τ.O i = some x := fun i x hx => by
    cases i with
    | loc j => cases hx
    | out n =>
      simp only [Sto.O, Sto.del] at hx ⊢
      split at hx
      · cases hx
      · exact hx
  refine ⟨u, r, γ', τ.del k, he, hrep, hinv.sub hO, ?_, h1, rfl⟩
  exact hev.trans ⟨rfl, rfl, rfl, Nat.le_refl _, fun _ _ _ => rfl, Ext.refl _ _ _, fun b o hb => .inl hb, fun b hb => .inl (Mut.sub hO hb)⟩

/-- A CALL THAT USES UP A MUTABLE ROW, AND HANDS BACK A ROW THAT IS FROZEN. -/
theorem ACall.openRow {P : Program} {f : FuncId} {rest : List AVal} {σ : Sto} {k s : Nat} {es es' : List AVal} (hk : σ.obj k = some (.buf es s (k + 1))) (he1 : noOutL 0 es = true) (he2 : noTokL 0 es = true)
    (hr1 : noOutL 0 rest = true) (hr2 : noTokL 0 rest = true) (ho1 : noOutL 0 es' = true) (ho2 : noTokL 0 es' = true) (hes' : ∀ e ∈ es', e.cells.length = s)
    (h0 : es = [] → ACall P f (.slice [] s .full :: rest) Sto.empty fun r _ => Wk r (.slice es' s .ro))
    (h1 : ∀ j c, es.length ≤ c → es.length * s + j = c * s → c ≤ 9223372036854775807 → ACall P f (.arr (.out 0) 0 es.length c :: rest) (Sto.one (.cells (flat es ++ List.replicate j .undef))) fun r τ =>
      Wk r (.slice es' s .ro) ∨ ∃ o cap tl, r = .arr (.out o) 0 es'.length cap ∧ τ.obj o = some (.cells (flat es' ++ tl)) ∧ cap ≤ 9223372036854775807) :
    ACall P f (.mrow k es.length :: rest) σ fun r τ => r = .slice es' s .ro ∧ τ = σ.del k := by
  intro γ w vs hi hr
  cases hr with
  | cons hm hrest =>
    rename_i v vs
    cases hm with
    | @mrow _ _ _ cap a hc hn hb =>
      by_cases hz : cap = 0
      · -- it has no room
        subst hz
        have hes : es = [] := List.eq_nil_of_length_eq_zero (by omega)
        subst hes
        have hh := h0 rfl
        have hE := ACall.ofEmpty (args := .slice [] s .full :: rest) (v := .slice es' s .ro) (by rw [sealL_noTok _ (by simp [noTokL, AVal.noTok, Tag.below, hr2])]; exact hh) (by rw [sealL_noTok _ (by simp [noTokL, AVal.noTok, Tag.below, hr2])]; simp [noOutL, AVal.noOut, hr1]) (by simp [AVal.noOut, ho1]) (by simp [AVal.noTok, Tag.below, ho2]) (fun r τ hq => hq) σ
        exact hE.drop k γ w _ hi (.cons (Rep.sliceNil (tag := .full) trivial (.inr rfl)) hrest)
      · obtain ⟨b, rfl, hb2⟩ := hb (by omega)
        obtain ⟨ws, junk, T, cap', g1, g2, g3, g4, g5, g6, g7, g8, g9⟩ := hi.objb (i := .out k) hk hb2
        rw [hc] at g5
        cases g5
        have hlw := g2.length
        rw [flat_length g3] at hlw
        have hlt : b < w.heap.size := block_lt g1
        let γ0 : Gh := { imm := γ.imm, obj := fun i => if i = .out 0 then some b else none, own := fun _ => .free }
        have hi0 : Inv γ0 w (Sto.one (.cells (flat es ++ List.replicate junk.length .undef))).O (Sto.one (.cells (flat es ++ List.replicate junk.length .undef))).own 1 0 := by
          have hO : ∀ i x, (Sto.one (.cells (flat es ++ List.replicate junk.length .undef))).O i = some x → i = .out 0 ∧ x = .cells (flat es ++ List.replicate junk.length .undef) := fun i x hx => by
            cases i with
            | loc j => cases hx
            | out n =>
              simp only [Sto.O, Sto.one] at hx
              split at hx
              · rename_i e; subst e; cases hx; exact ⟨rfl, rfl⟩
              · cases hx
          refine ⟨hi.imm, fun i x hx => ?_, fun i j x y b' hx hy _ _ => ?_, fun p n hp => (by cases hp), fun p q n m b hp => (by cases hp), fun i x p n b hx hp => (by cases hp), fun n hn => ?_, fun p _ => rfl, hi.amb⟩
          · obtain ⟨rfl, rfl⟩ := hO i x hx
            refine .inr ⟨b, by simp [γ0], ws ++ junk, T, g1, RepL.append (RepL.undefs _ _ _ _ _ rfl) (RepL.closed g2 (by rw [noOut_flat]; exact he1) (by rw [noTok_flat]; exact he2) fun _ _ h => h), g4, g9⟩
          · rw [(hO i x hx).1, (hO j y hy).1]
          · have : n ≠ 0 := by omega
            simp [γ0, this]
        have hrest0 : RepL γ0 w false rest vs := RepL.closed hrest hr1 hr2 fun _ _ h => h
        have hcall := h1 junk.length cap hn (by rw [← g6, List.length_append, ← hlw]) (by simp [maxLen] at g8; omega)
        refine (hcall γ0 w _ hi0 (.cons (Rep.arr (off' := 0) (by simp [γ0]) (.inr rfl) hn (fun _ => rfl)) hrest0)).mono fun e w' ⟨u, r, γ', τ, he, hrep, hinv, hev, hq⟩ => ?_
        have hmut : ∀ b', Mut γ0 (Sto.one (.cells (flat es ++ List.replicate junk.length .undef))).O (Sto.one (.cells (flat es ++ List.replicate junk.length .undef))).own b' → b' = b := fun b' hb' => by
          rcases hb' with ⟨i, x, _, hbi⟩ | ⟨p, n, hp, _⟩
          · simp only [γ0] at hbi
            split at hbi
            · cases hbi; rfl
            · cases hbi
          · cases hp
        have hold : ∀ b', b' < w.heap.size → b' ≠ b → w'.heap[b']? = w.heap[b']? := fun b' hb' hne => hev.old b' hb' (fun h => hne (hmut b' h))
        -- the frozen row
        obtain ⟨I, hI1, hI2, hI3, hrv⟩ : ∃ I : Nat → Nat → Prop, (∀ b' o, γ'.imm b' o → I b' o) ∧ (∀ b' o, I b' o → γ.imm b' o ∨ w.heap.size ≤ b' ∨ b' = b) ∧ (∀ b' o, I b' o → b' < w'.heap.size) ∧
            Rep { imm := I, obj := γ'.obj, own := γ'.own } w' false (.slice es' s .ro) u := by
          have hbase : ∀ b' o, γ'.imm b' o → γ.imm b' o ∨ w.heap.size ≤ b' ∨ b' = b := fun b' o h => by
            rcases hev.new b' o h with h2 | h2 | h2
            · exact .inl h2
            · exact .inr (.inl h2)
            · exact .inr (.inr (hmut b' h2))
          rcases hq with hq | ⟨o, cp, tl, rfl, hτ, hcp⟩
          · exact ⟨γ'.imm, fun _ _ h => h, hbase, hinv.imm, hq _ _ _ _ hrep⟩
          · cases hrep with
            | @arr _ _ _ off' _ _ b' hb' hoo hnc h00 =>
              obtain ⟨us, T', k1, k2, k3, k4⟩ := hinv.objb (i := .out o) hτ hb'
              have hlu := k2.length
              refine ⟨fun b1 o1 => γ'.imm b1 o1 ∨ (b1 = b' ∧ ∃ v, w'.cell? ⟨b1, o1, none⟩ = some v), fun _ _ h => .inl h, fun b1 o1 h => ?_, fun b1 o1 h => h.elim (hinv.imm b1 o1) (fun h => h.2.elim fun _ hv => World.block_lt_of_cell? w' ⟨b1, o1, none⟩ hv), ?_⟩
              · rcases h with h | ⟨rfl, _⟩
                · exact hbase b1 o1 h
                · rcases hev.mutd b1 (.inl ⟨.out o, _, hτ, hb'⟩) with h2 | h2
                  · exact .inr (.inr (hmut b1 h2))
                  · exact .inr (.inl h2)
              · by_cases hcz : cp = 0
                · subst hcz
                  have : es' = [] := List.eq_nil_of_length_eq_zero (by omega)
                  subst this
                  exact .sliceNil trivial (.inr rfl)
                · obtain rfl := h00 (by omega)
                  have hsp := (RepL.split k2).1
                  refine .sliceRow (RepL.mono ⟨fun b1 o1 h => ⟨.inl h, rfl⟩, fun _ _ _ h => h, fun p => OwnStep.refl _⟩ hsp) hes' (fun j v hj => ?_) (fun v hv => k3 v (List.mem_of_mem_take hv)) hnc (by simp [maxLen]; omega) trivial
                  have hcell : w'.cell? ⟨b', 0 + j, none⟩ = some v := by
                    simp only [World.cell?, k1, Nat.zero_add]
                    simp only [Option.isSome_none, Bool.false_eq_true, if_false]
                    rw [List.getElem?_toArray]
                    rw [List.getElem?_take] at hj
                    split at hj
                    · exact hj
                    · cases hj
                  exact ⟨.inr ⟨rfl, v, hcell⟩, hcell⟩
        have hext : ∀ l, Ext l γ w { imm := I, obj := γ.obj, own := γ.own } w' := fun l => ⟨fun b' o h => ⟨hI1 b' o (hev.ext.imm b' o h).1, (hev.ext.imm b' o h).2⟩, fun _ _ _ h => h, fun p => OwnStep.refl _⟩
        have hnoti : ∀ b' o, b' < w.heap.size → b' ≠ b → I b' o → γ.imm b' o := fun b' o h2 h3 h => by
          rcases hI2 b' o h with h4 | h4 | h4
          · exact h4
          · omega
          · exact (h3 h4).elim
        have hO : ∀ i x, (σ.del k).O i = some x → σ.O i = some x ∧ i ≠ .out k := fun i x hx => by
          cases i with
          | loc j => cases hx
          | out n =>
            simp only [Sto.O, Sto.del] at hx ⊢
            split at hx
            · cases hx
            · rename_i hne; exact ⟨hx, fun e => hne (by cases e; rfl)⟩
        refine ⟨u, .slice es' s .ro, { imm := I, obj := γ.obj, own := γ.own }, σ.del k, he, Rep.closed hrv (by simp [AVal.noOut, ho1]) (by simp [AVal.noTok, Tag.below, ho2]) (fun _ _ h => h), ?_, ?_, rfl, rfl⟩
        · refine ⟨hI3, fun i x hx => ?_, fun i j x y b' hx hy => hi.inj i j x y b' (hO i x hx).1 (hO j y hy).1, fun p n hp => ?_, hi.ownInj, fun i x p n b' hx => hi.apart i x p n b' (hO i x hx).1, hi.freshO, hi.freshW, hi.amb.mono (hext true) hev.size⟩
          · obtain ⟨hx1, hx2⟩ := hO i x hx
            rcases hi.obj i x hx1 with h2 | ⟨b', hb', hok⟩
            · exact .inl h2
            have hbb : b' ≠ b := fun e => hx2 (hi.inj i (.out k) x _ b' hx1 hk hb' (e ▸ hb2))
            exact .inr ⟨b', hb', hok.mono (hext _) (hold b' hok.lt hbb) (fun o ho => hok.notImm o (hnoti b' o hok.lt hbb ho))⟩
          · have hok := hi.own p n hp
            have hbb : ∀ b', (γ.own p).blk = some b' → b' ≠ b := fun b' hb' e => hi.apart (.out k) _ p n b' hk hp (e ▸ hb2) hb'
            exact hok.mono (fun b' hb' => hold b' (hok.lt hb') (hbb b' hb')) (fun b' o hb' ho => hnoti b' o (hok.lt hb') (hbb b' hb') ho)
        · refine ⟨hev.os, hev.tape, hev.output, hev.size, fun b' hb' hm => hold b' hb' (fun e => hm (.inl ⟨.out k, _, hk, e ▸ hb2⟩)), hext false, fun b' o h => ?_, fun b' hb' => .inl (Mut.sub (fun i x hx => (hO i x hx).1) hb')⟩
          rcases hI2 b' o h with h2 | h2 | h2
          · exact .inl h2
          · exact .inr (.inl h2)
          · exact .inr (.inr (.inl ⟨.out k, _, hk, h2 ▸ hb2⟩))
end Go.AL
end

section
namespace Go.AL
set_option linter.unusedSimpArgs false
set_option linter.unusedVariables false

theorem Known.below {w W : World} (hb : Go.RowKit.Below w.heap.size w W) (h : Known w) : Known W := by
  have key : ∀ b o v, w.cell? ⟨b, o, none⟩ = some v → W.cell? ⟨b, o, none⟩ = some v := fun b o v h1 => by
    have hlt : b < w.heap.size := by
      rcases Nat.lt_or_ge b w.heap.size with h' | h'
      · exact h'
      · simp [World.cell?, Array.getElem?_eq_none h'] at h1
    rw [hb.cell (p := ⟨b, o, none⟩) hlt]; exact h1
  exact ⟨fun x hx => key _ _ _ (h.1 x hx), fun x hx => let ⟨v, h1, h2⟩ := h.2.1 x hx; ⟨v, key _ _ _ h1, h2⟩, fun x hx => ⟨Nat.lt_of_lt_of_le (h.2.2 x hx).1 hb.size, fun o ho => by
    rw [hb.cell (p := ⟨x.1, o, none⟩) (h.2.2 x hx).1]; exact (h.2.2 x hx).2 o ho⟩⟩
theorem Ext.below {l : Bool} {γ : Gh} {w w' : World} (hlt : ∀ b o, γ.imm b o → b < w.heap.size) (hb : Go.RowKit.Below w.heap.size w w') : Ext l γ w γ w' :=
  ⟨fun b o hi => ⟨hi, cell?_heap (hb.block b (hlt b o hi))⟩, fun _ _ _ h => h, fun p => OwnStep.refl _⟩
theorem Inv.below {γ : Gh} {w w' : World} {O : Oid → Option AObj} {W : Nat → Option Nat} {no nw : Nat} (h : Inv γ w O W no nw) (hb : Go.RowKit.Below w.heap.size w w') : Inv γ w' O W no nw := by
  have e : ∀ l, Ext l γ w γ w' := fun l => Ext.below (fun b o hi => h.imm_lt hi) hb
  refine ⟨fun b o hi => ?_, fun i x hx => ?_, h.inj, fun p n hp => ?_, h.ownInj, h.apart, h.freshO, h.freshW, h.amb.mono (e true) hb.size⟩
  · exact Nat.lt_of_lt_of_le (h.imm b o hi) hb.size
  · rcases h.obj i x hx with h1 | ⟨b, hbk, hok⟩
    · exact .inl h1
    · exact .inr ⟨b, hbk, hok.mono (e _) (hb.block b hok.lt) hok.notImm⟩
  · have hok := h.own p n hp
    exact hok.mono (fun b hbk => hb.block b (hok.lt hbk)) (fun b o hbk hi => hi)
theorem Evo.below {γ : Gh} {w w' : World} {O : Oid → Option AObj} {W : Nat → Option Nat} (hlt : ∀ b o, γ.imm b o → b < w.heap.size) (hb : Go.RowKit.Below w.heap.size w w') : Evo γ w O W γ w' O W :=
  ⟨hb.os, hb.tape, hb.output, hb.size, fun b h _ => hb.block b h, Ext.below hlt hb, fun _ _ h => .inl h, fun _ h => .inl h⟩
/-- A contract of the library's: it yields a value, and what was there is as it was. -/
theorem PCall.ofBelow {P : Program} {g : FuncId} {xs : List AVal} {v : AVal}
    (h : ∀ γ w vs, RepL γ w false xs vs → Calls P g vs.toArray w fun e w' => ∃ u, e = .returned u ∧ Rep γ w' false v u ∧ Go.RowKit.Below w.heap.size w w') : PCall P g xs v :=
  fun σ γ w vs hi hr => (h γ w vs hr).mono fun e w' ⟨u, h1, h2, h3⟩ =>
    ⟨u, v, γ, σ, h1, h2, hi.below h3, Evo.below (fun b o hm => hi.imm_lt hm) h3, rfl, rfl⟩
theorem PCall.ofSame {P : Program} {g : FuncId} {xs : List AVal} {v : AVal}
    (h : ∀ γ w vs, RepL γ w false xs vs → Calls P g vs.toArray w fun e w' => ∃ u, e = .returned u ∧ Rep γ w false v u ∧ w' = w) : PCall P g xs v :=
  .ofBelow fun γ w vs hr => (h γ w vs hr).mono fun e w' ⟨u, h1, h2, h3⟩ => by subst h3; exact ⟨u, h1, h2, Go.RowKit.Below.refl _ _⟩
theorem repStr {γ : Gh} {w : World} {l : Bool} {s : List UInt8} {u : Value} (h : Rep γ w l (.str s) u) : u = .string ⟨s.toArray⟩ := by cases h; rfl
theorem repL1 {γ : Gh} {w : World} {l : Bool} {a : AVal} {vs : List Value} (h : RepL γ w l [a] vs) : ∃ u, vs = [u] ∧ Rep γ w l a u := by
  cases h with
  | cons h1 h2 => cases h2; exact ⟨_, rfl, h1⟩
theorem repL2 {γ : Gh} {w : World} {l : Bool} {a b : AVal} {vs : List Value} (h : RepL γ w l [a, b] vs) : ∃ u v, vs = [u, v] ∧ Rep γ w l a u ∧ Rep γ w l b v := by
  cases h with
  | cons h1 h2 => obtain ⟨v, rfl, h3⟩ := repL1 h2; exact ⟨_, _, rfl, h1, h3⟩
/-- A slice without room that is handed back is said to bear a permission. -/
theorem ACall.growRes {P : Program} {f : FuncId} {args : List AVal} {σ : Sto} {Q : AVal → Sto → Prop} {n : Nat}
    (h : ACall P f args σ fun r τ => (∃ s, r = .slice [] s .nil ∧ Q (.slice [] n (.own τ.nown)) (τ.pushOwn 0)) ∨ (∃ es s, r = .slice es s .full ∧ Q (.slice es s (.own τ.nown)) (τ.pushOwn es.length)) ∨ Q r τ) : ACall P f args σ Q := by
  intro γ w0 vs hi hr
  refine (h γ w0 vs hi hr).mono fun e w' ⟨v, r, γ', τ, he, hrep, hinv, hev, hq⟩ => ?_
  have hO : ∀ τ : Sto, St.objAt { n := 0, fr := [], tm := [], loc := [], σ := τ } = τ.O := fun τ => by funext i; cases i <;> rfl
  have hC : Conc γ' w' { tmps := #[], defers := [] } { n := 0, fr := [], tm := [], loc := [], σ := τ } := ⟨rfl, fun t => .undef _ _, rfl, by rw [hO]; exact hinv⟩
  have fin : ∀ m : Nat, Inv { γ' with own := fun q => if q = τ.nown then .full m else γ'.own q } w' (τ.pushOwn m).O (τ.pushOwn m).own (τ.pushOwn m).nobj (τ.pushOwn m).nown ∧
      Evo γ w0 σ.O σ.own { γ' with own := fun q => if q = τ.nown then .full m else γ'.own q } w' (τ.pushOwn m).O (τ.pushOwn m).own := fun m => by
    obtain ⟨c1, c2, c3⟩ := hC.ownFull m
    refine ⟨?_, ?_⟩
    · have := c1.inv
      rw [hO (τ.pushOwn m)] at this
      exact this
    · have e1 := c2
      unfold EvoS at e1
      rw [hO τ, hO (τ.pushOwn m)] at e1
      exact hev.trans e1
  rcases hq with ⟨s, rfl, hq⟩ | ⟨es, s, rfl, hq⟩ | hq
  · refine ⟨v, _, _, _, he, ?_, (fin 0).1, (fin 0).2, hq⟩
    generalize hes : ([] : List AVal) = es at hrep
    cases hrep with
    | sliceRow _ _ _ _ _ _ ht => exact ht.elim
    | sliceNil ht ho => exact .sliceNil (by simp [AL.tagNil, Own.isNil]) (.inr rfl)
  · refine ⟨v, _, _, _, he, ?_, (fin es.length).1, (fin es.length).2, hq⟩
    obtain ⟨c1, c2, c3⟩ := hC.ownFull es.length
    cases hrep with
    | @sliceRow _ _ _ _ b off cap vs h1 h2 h3 h4 h5 h6 h7 =>
      refine .sliceRow (RepL.mono c3.weak h1) h2 (c3.cellsAt h3) h4 h5 h6 ?_
      have : AL.tagRow { γ' with own := fun q => if q = τ.nown then .full es.length else γ'.own q } (.own τ.nown) es.length b off cap s := by
        simp only [AL.tagRow, if_true, Own.isRow]
        exact ⟨Nat.le_refl _, fun _ => h7⟩
      exact this
    | sliceNil ht ho => exact .sliceNil (by simp [AL.tagNil, Own.isNil]) (.inr rfl)
  · exact ⟨v, r, γ', τ, he, hrep, hinv, hev, hq⟩
end Go.AL
end

section
namespace Go.AL
set_option linter.unusedSimpArgs false
set_option linter.unusedVariables false

section
variable {β : Type}
def mi (f : β → AVal) (m : List (Int × β)) : List (AVal × AVal) := m.map fun x => (.int .i64 x.1, f x.2)
def getI (m : List (Int × β)) (k : Int) : Option β := (m.find? fun x => x.1 == k).map (·.2)
def putI (k : Int) (v : β) : List (Int × β) → List (Int × β)
  | [] => [(k, v)]
  | x :: r => if x.1 = k then (k, v) :: r else x :: putI k v r
def delI (k : Int) : List (Int × β) → List (Int × β)
  | [] => []
  | x :: r => if x.1 = k then r else x :: delI k r
@[simp] theorem mi_length (f : β → AVal) (m : List (Int × β)) : (mi f m).length = m.length := by simp [mi]
theorem getI_nil (k : Int) : getI ([] : List (Int × β)) k = none := rfl
theorem getI_cons (x : Int × β) (m : List (Int × β)) (k : Int) : getI (x :: m) k = if x.1 = k then some x.2 else getI m k := by
  simp only [getI, List.find?_cons]
  by_cases h : x.1 = k
  · simp [h]
  · have : (x.1 == k) = false := by simp only [beq_eq_false_iff_ne]; exact h
    simp [this, h]
theorem getI_putI (k : Int) (v : β) (m : List (Int × β)) (j : Int) : getI (putI k v m) j = if k = j then some v else getI m j := by
  induction m with
  | nil => rw [putI, getI_cons, getI_nil]
  | cons y m ih =>
    rw [putI]
    by_cases h : y.1 = k
    · rw [if_pos h, getI_cons, getI_cons]
      by_cases hx : k = j
      · simp [hx]
      · rw [if_neg hx, if_neg hx, if_neg (by rw [h]; exact hx)]
    · rw [if_neg h, getI_cons, getI_cons, ih]
      by_cases hx : k = j
      · subst hx; simp [h]
      · simp [hx]
theorem keys_putI (k : Int) (v : β) (m : List (Int × β)) : (putI k v m).map (·.1) = if k ∈ m.map (·.1) then m.map (·.1) else m.map (·.1) ++ [k] := by
  induction m with
  | nil => rfl
  | cons y m ih =>
    rw [putI]
    by_cases h : y.1 = k
    · subst h; rw [if_pos rfl, if_pos (by simp)]; simp
    · rw [if_neg h]
      simp only [List.map_cons, List.mem_cons]
      rw [ih]
      have h' : ¬ k = y.1 := fun e => h e.symm
      by_cases hm : k ∈ m.map (·.1)
      · rw [if_pos hm, if_pos (.inr hm)]
      · rw [if_neg hm, if_neg (by rintro (h1 | h1); exact h' h1; exact hm h1)]; rfl
theorem getI_mem {m : List (Int × β)} {k : Int} {v : β} (h : getI m k = some v) : (k, v) ∈ m := by
  induction m with
  | nil => cases h
  | cons y m ih =>
    rw [getI_cons] at h
    split at h
    · rename_i e; cases h; subst e; simp
    · exact List.mem_cons_of_mem _ (ih h)
theorem getI_isSome (m : List (Int × β)) (k : Int) : (getI m k).isSome = true ↔ k ∈ m.map (·.1) := by
  induction m with
  | nil => simp [getI_nil]
  | cons y m ih =>
    rw [getI_cons]
    by_cases h : y.1 = k
    · simp [h]
    · rw [if_neg h, ih]
      simp only [List.map_cons, List.mem_cons]
      exact ⟨.inr, fun h' => h'.elim (fun e => (h e.symm).elim) id⟩
theorem eqK_int (a b : Int) : eqK (.int .i64 a) (.int .i64 b) = decide (a = b) := by
  simp only [eqK, eqC]
  rw [Bool.eq_iff_iff]; simp
theorem mapFind_mi (f : β → AVal) (k : Int) : ∀ (m : List (Int × β)) (i : Nat), match mapFind (.int .i64 k) (mi f m) i with
    | none => getI m k = none
    | some x => ∃ v, getI m k = some v ∧ x.2 = f v := by
  intro m
  induction m with
  | nil => intro i; rfl
  | cons x m ih =>
    intro i
    simp only [mi, List.map_cons, mapFind, eqK_int]
    by_cases h : k = x.1
    · simp only [h, decide_true]
      exact ⟨x.2, by rw [getI_cons]; simp, rfl⟩
    · simp only [decide_eq_false h]
      have := ih (i + 1)
      rw [getI_cons, if_neg (fun e => h e.symm)]
      simp only [mi] at this
      exact this
theorem mapVal_mi (f : β → AVal) (k : Int) (z : AVal) (m : List (Int × β)) : mapVal (.int .i64 k) z (mi f m) = match getI m k with | some v => f v | none => z := by
  have := mapFind_mi f k m 0
  unfold mapVal
  cases hm : mapFind (.int .i64 k) (mi f m) 0 with
  | none => rw [hm] at this; rw [this]
  | some x => rw [hm] at this; obtain ⟨e, h1, h2⟩ := this; rw [h1]; exact h2
theorem mapFindS_mi (f : β → AVal) (k : Int) (m : List (Int × β)) : (mapFind (.int .i64 k) (mi f m) 0).isSome = (getI m k).isSome := by
  have := mapFind_mi f k m 0
  cases hm : mapFind (.int .i64 k) (mi f m) 0 with
  | none => rw [hm] at this; rw [this]; rfl
  | some x => rw [hm] at this; obtain ⟨e, h1, h2⟩ := this; rw [h1]; rfl
theorem mapPut_go (f : β → AVal) (k : Int) (v : β) : ∀ (m : List (Int × β)) (i : Nat), (match mapFind (.int .i64 k) (mi f m) i with | some x => (mi f m).set (x.1 - i) (.int .i64 k, f v) | none => mi f m ++ [(.int .i64 k, f v)]) = mi f (putI k v m)
  | [], i => rfl
  | x :: m, i => by
    simp only [mi, List.map_cons, mapFind, eqK_int, putI]
    by_cases h : k = x.1
    · simp [h]
    · simp only [decide_eq_false h]
      rw [if_neg (fun e => h e.symm)]
      have ih := mapPut_go f k v m (i + 1)
      have hs := mapFind_spec (.int .i64 k) (mi f m) (i + 1)
      simp only [mi, List.map_cons] at ih hs ⊢
      cases hm : mapFind (.int .i64 k) (m.map fun x => (AVal.int .i64 x.1, f x.2)) (i + 1) with
      | none => rw [hm] at ih; simp only [List.cons_append]; rw [← ih]
      | some y =>
        rw [hm] at ih hs
        obtain ⟨j, z, h1, h2, _⟩ := hs
        simp only [] at ih ⊢
        rw [← ih, show y.1 - i = (y.1 - (i + 1)) + 1 by omega]
        rfl
theorem mapPut_mi (f : β → AVal) (k : Int) (v : β) (m : List (Int × β)) : mapPut (.int .i64 k) (f v) (mi f m) = mi f (putI k v m) := mapPut_go f k v m 0
theorem mapDel_go (f : β → AVal) (k : Int) : ∀ (m : List (Int × β)) (i : Nat), (match mapFind (.int .i64 k) (mi f m) i with | some x => (mi f m).eraseIdx (x.1 - i) | none => mi f m) = mi f (delI k m)
  | [], i => rfl
  | x :: m, i => by
    simp only [mi, List.map_cons, mapFind, eqK_int, delI]
    by_cases h : k = x.1
    · simp [h]
    · simp only [decide_eq_false h]
      rw [if_neg (fun e => h e.symm)]
      have ih := mapDel_go f k m (i + 1)
      have hs := mapFind_spec (.int .i64 k) (mi f m) (i + 1)
      simp only [mi, List.map_cons] at ih hs ⊢
      cases hm : mapFind (.int .i64 k) (m.map fun x => (AVal.int .i64 x.1, f x.2)) (i + 1) with
      | none => rw [hm] at ih; simp only []; rw [← ih]
      | some y =>
        rw [hm] at ih hs
        obtain ⟨j, z, h1, h2, _⟩ := hs
        simp only [] at ih ⊢
        rw [← ih, show y.1 - i = (y.1 - (i + 1)) + 1 by omega]
        rfl
theorem mapDel_mi (f : β → AVal) (k : Int) (m : List (Int × β)) : mapDel (.int .i64 k) (mi f m) = mi f (delI k m) := mapDel_go f k m 0
theorem keysOk_mi {P : Program} {T : TypeId} (hT : leafOf P T = some (.int .i64)) (f : β → AVal) (m : List (Int × β)) : keysOk P T (mi f m) = true := by
  simp only [keysOk, mi, List.all_map, List.all_eq_true]
  intro x _
  simp only [Function.comp, kOk, hT, Leaf.fits]
  rfl
end
/-- Truth values. -/
def mb (m : List (Int × Bool)) : List (AVal × AVal) := mi AVal.bool m
theorem push_set (σ : Sto) (x y : AObj) : (σ.push x).set σ.nobj y = σ.push y := by
  simp only [Sto.push, Sto.set, Sto.mk.injEq, true_and, and_true]
  funext n; by_cases h : n = σ.nobj <;> simp [h]
theorem push_set0 (x y : AObj) : (Sto.push Sto.empty x).set 0 y = Sto.push Sto.empty y := push_set Sto.empty x y
end Go.AL
end

section
namespace Go.AL
set_option linter.unusedSimpArgs false
set_option linter.unusedVariables false

theorem setRange_length {cs xs : List AVal} {off : Nat} (h : off + xs.length ≤ cs.length) : (setRange cs off xs).length = cs.length := by
  simp [setRange]; omega
theorem setRange_get {cs xs : List AVal} {off : Nat} (h : off + xs.length ≤ cs.length) (k : Nat) : (setRange cs off xs)[k]? = if k < off then cs[k]? else if k < off + xs.length then xs[k - off]? else cs[k]? := by
  unfold setRange
  have hl : (cs.take off).length = off := by simp; omega
  by_cases h1 : k < off
  · rw [if_pos h1, List.append_assoc, List.getElem?_append_left (by omega), List.getElem?_take, if_pos h1]
  · rw [if_neg h1, List.append_assoc, List.getElem?_append_right (by omega), hl]
    by_cases h2 : k < off + xs.length
    · rw [if_pos h2, List.getElem?_append_left (by omega)]
    · rw [if_neg h2, List.getElem?_append_right (by omega), List.getElem?_drop]
      congr 1; omega
theorem pre_of {C P : List AVal} (h : ∀ k, k < P.length → C[k]? = P[k]?) : ∃ tl, C = P ++ tl := by
  refine ⟨C.drop P.length, ?_⟩
  apply List.ext_getElem?
  intro k
  by_cases hk : k < P.length
  · rw [h k hk, List.getElem?_append_left hk]
  · rw [List.getElem?_append_right (by omega), List.getElem?_drop]
    congr 1; omega
theorem noLocL_take (n : Nat) : ∀ {xs : List AVal}, noLocL xs = true → noLocL (xs.take n) = true := by
  induction n with
  | zero => intros; rfl
  | succ n ih =>
    intro xs h
    cases xs with
    | nil => rfl
    | cons a xs =>
      simp only [noLocL, Bool.and_eq_true, List.take_succ_cons] at h ⊢
      exact ⟨h.1, ih h.2⟩
theorem noLocL_drop (n : Nat) : ∀ {xs : List AVal}, noLocL xs = true → noLocL (xs.drop n) = true := by
  induction n with
  | zero => intro xs h; exact h
  | succ n ih =>
    intro xs h
    cases xs with
    | nil => rfl
    | cons a xs =>
      simp only [noLocL, Bool.and_eq_true, List.drop_succ_cons] at h ⊢
      exact ih h.2
theorem noLocL_undefs (n : Nat) : noLocL (List.replicate n AVal.undef) = true := by
  induction n with
  | zero => rfl
  | succ n ih => simp only [List.replicate_succ, noLocL, ih]; rfl
theorem one_set (x y : AObj) : (Sto.one x).set 0 y = Sto.one y := by
  simp only [Sto.one, Sto.set, Sto.mk.injEq, true_and, and_true]
  funext n; by_cases h : n = 0 <;> simp [h]

theorem noLocL_rep {z : AVal} (h : z.noLoc = true) (n : Nat) : noLocL (List.replicate n z) = true := by
  induction n with
  | zero => rfl
  | succ n ih => simp only [List.replicate_succ, noLocL, ih, h, Bool.and_self]
theorem flat_rep {z : AVal} (h : z.cells = [z]) (n : Nat) : flat (List.replicate n z) = List.replicate n z := by
  induction n with
  | zero => rfl
  | succ n ih =>
    simp only [List.replicate_succ, flat, List.flatMap_cons, h] at ih ⊢
    rw [ih]; rfl
def insL {α : Type} (l : List α) (i : Nat) (x : α) : List α := l.take i ++ x :: l.drop i
def delL {α : Type} (l : List α) (i : Nat) : List α := l.take i ++ l.drop (i + 1)
/-- E, with x laid in at i. -/
def insC (E : List AVal) (i : Nat) (x : AVal) : List AVal := E.take i ++ x :: E.drop i
theorem insC_map {β : Type} (f : β → AVal) (l : List β) (i : Nat) (x : β) : insC (l.map f) i (f x) = (insL l i x).map f := by simp [insC, insL]
theorem insC_length {E : List AVal} {i : Nat} (x : AVal) (h : i ≤ E.length) : (insC E i x).length = E.length + 1 := by simp [insC]; omega
theorem insC_get {E : List AVal} {i : Nat} (x : AVal) (h : i ≤ E.length) (k : Nat) : (insC E i x)[k]? = if k < i then E[k]? else if k = i then some x else E[k - 1]? := by
  unfold insC
  have hl : (E.take i).length = i := by simp; omega
  by_cases h1 : k < i
  · rw [if_pos h1, List.getElem?_append_left (by omega), List.getElem?_take, if_pos h1]
  · rw [if_neg h1, List.getElem?_append_right (by omega), hl]
    by_cases h2 : k = i
    · subst h2; simp
    · rw [if_neg h2]
      obtain ⟨d, hd⟩ : ∃ d, k - i = d + 1 := ⟨k - i - 1, by omega⟩
      rw [hd, List.getElem?_cons_succ, List.getElem?_drop]
      congr 1; omega
/-- In place: what stands from i on moves up by one, x comes there. -/
theorem ins_shift {E J : List AVal} {i : Nat} (x : AVal) (hi : i ≤ E.length) (hJ : 1 ≤ J.length) :
    ∃ tl, setRange (setRange (E ++ J) (i + 1) (((E ++ J).drop i).take (E.length - i))) i [x] = insC E i x ++ tl := by
  have hl1 : (((E ++ J).drop i).take (E.length - i)).length = E.length - i := by simp; omega
  have h1 : i + 1 + (((E ++ J).drop i).take (E.length - i)).length ≤ (E ++ J).length := by rw [hl1]; simp; omega
  refine pre_of fun k hk => ?_
  rw [insC_length x hi] at hk
  rw [setRange_get (by rw [setRange_length h1]; simp; omega), insC_get x hi, setRange_get h1, hl1]
  by_cases k1 : k < i
  · rw [if_pos k1, if_pos k1, if_pos (by omega), List.getElem?_append_left (by omega)]
  · rw [if_neg k1, if_neg k1]
    by_cases k2 : k = i
    · subst k2; rw [if_pos (by simp), if_pos rfl]; simp
    · rw [if_neg (by simp; omega), if_neg k2, if_neg (by omega), if_pos (by omega), List.getElem?_take, if_pos (by omega), List.getElem?_drop, List.getElem?_append_left (by omega)]
      congr 1; omega
theorem ins_end {E J : List AVal} (x : AVal) (hJ : 1 ≤ J.length) : ∃ tl, setRange (E ++ J) E.length [x] = insC E E.length x ++ tl := by
  refine pre_of fun k hk => ?_
  rw [insC_length x (Nat.le_refl _)] at hk
  rw [setRange_get (by simp; omega), insC_get x (Nat.le_refl _)]
  by_cases k1 : k < E.length
  · rw [if_pos k1, if_pos k1, List.getElem?_append_left k1]
  · rw [if_neg k1, if_neg k1, if_pos (by simp; omega), if_pos (by omega)]
    have : k - E.length = 0 := by omega
    rw [this]; rfl
theorem ins_endG {E J U : List AVal} (x : AVal) : ∃ tl, (E ++ J).take E.length ++ [x] ++ U = insC E E.length x ++ tl := ⟨U, by simp [insC]⟩
theorem ins_mid {E J U : List AVal} {i : Nat} (x z : AVal) (hi : i ≤ E.length) :
    ∃ tl, setRange (setRange ((E ++ J).take i ++ List.replicate (E.length + 1 - i) z ++ U) i [x]) (i + 1) (((E ++ J).drop i).take (E.length - i)) = insC E i x ++ tl := by
  have hl1 : (((E ++ J).drop i).take (E.length - i)).length = E.length - i := by simp; omega
  have hl0 : ((E ++ J).take i ++ List.replicate (E.length + 1 - i) z ++ U).length = E.length + 1 + U.length := by simp; omega
  have h1 : i + [x].length ≤ ((E ++ J).take i ++ List.replicate (E.length + 1 - i) z ++ U).length := by rw [hl0]; simp; omega
  have h2 : i + 1 + (((E ++ J).drop i).take (E.length - i)).length ≤ (setRange ((E ++ J).take i ++ List.replicate (E.length + 1 - i) z ++ U) i [x]).length := by rw [setRange_length h1, hl0, hl1]; omega
  refine pre_of fun k hk => ?_
  rw [insC_length x hi] at hk
  rw [setRange_get h2, insC_get x hi, setRange_get h1, hl1]
  by_cases k1 : k < i
  · rw [if_pos (by omega), if_pos k1, if_pos k1, List.append_assoc, List.getElem?_append_left (by simp; omega), List.getElem?_take, if_pos k1, List.getElem?_append_left (by omega)]
  · by_cases k2 : k = i
    · subst k2
      rw [if_pos (by omega), if_neg k1, if_pos (by simp), if_neg k1, if_pos rfl]; simp
    · rw [if_neg (by omega), if_pos (by omega), if_neg k1, if_neg k2, List.getElem?_take, if_pos (by omega), List.getElem?_drop, List.getElem?_append_left (by omega)]
      congr 1; omega
/-- E, without the one at i. -/
def delC (E : List AVal) (i : Nat) : List AVal := E.take i ++ E.drop (i + 1)
theorem delC_map {β : Type} (f : β → AVal) (l : List β) (i : Nat) : delC (l.map f) i = (delL l i).map f := by simp [delC, delL]
theorem del_cells {E J Z : List AVal} {i : Nat} (hi : i < E.length) (hZ : Z.length = 1) :
    ∃ tl, setRange (setRange (E ++ J) i (((E ++ J).drop (i + 1)).take (E.length - (i + 1)))) (i + (E.length - (i + 1))) Z = delC E i ++ tl := by
  have hl1 : (((E ++ J).drop (i + 1)).take (E.length - (i + 1))).length = E.length - (i + 1) := by simp; omega
  have h1 : i + (((E ++ J).drop (i + 1)).take (E.length - (i + 1))).length ≤ (E ++ J).length := by rw [hl1]; simp; omega
  have h2 : i + (E.length - (i + 1)) + Z.length ≤ (setRange (E ++ J) i (((E ++ J).drop (i + 1)).take (E.length - (i + 1)))).length := by rw [setRange_length h1, hZ]; simp; omega
  have hd : (delC E i).length = E.length - 1 := by simp [delC]; omega
  refine pre_of fun k hk => ?_
  rw [hd] at hk
  rw [setRange_get h2, if_pos (by omega), setRange_get h1, hl1]
  unfold delC
  by_cases k1 : k < i
  · rw [if_pos k1, List.getElem?_append_left (by omega), List.getElem?_append_left (by simp; omega), List.getElem?_take, if_pos k1]
  · rw [if_neg k1, if_pos (by omega), List.getElem?_append_right (by simp; omega), List.getElem?_take, if_pos (by omega), List.getElem?_drop, List.getElem?_append_left (by omega), List.getElem?_drop]
    have : (E.take i).length = i := by simp; omega
    rw [this]
end Go.AL
end

section
namespace Go.AL
set_option linter.unusedVariables false
/-- Every block is never changed, but one; that one is the object 0. -/
def Gh.row (w : World) (g : Nat) : Gh := { imm := fun b _ => b < w.heap.size ∧ b ≠ g, obj := fun i => if i = .out 0 then some g else none, own := fun _ => .free }

theorem Inv.row {w : World} {g : Nat} {cs : List AVal} {vs : List Value} {T : TypeId} (hamb : Amb (Gh.row w g) w) (hg : w.heap[g]? = some (.cells vs.toArray T (0, 0)))
    (hr : RepL (Gh.row w g) w false cs vs) (h1 : ∀ v ∈ vs, v.oneCell' = true) : Inv (Gh.row w g) w (Sto.one (.cells cs)).O (Sto.one (.cells cs)).own (Sto.one (.cells cs)).nobj (Sto.one (.cells cs)).nown := by
  have ho : ∀ i x, (Sto.one (.cells cs)).O i = some x → i = .out 0 ∧ x = .cells cs := fun i x h => by
    cases i with
    | loc k => cases h
    | out n =>
      simp only [Sto.O, Sto.one] at h
      split at h
      · rename_i e; subst e; cases h; exact ⟨rfl, rfl⟩
      · cases h
  refine ⟨fun b o h => h.1, fun i x h => ?_, fun i j x y b h k _ _ => (ho i x h).1.trans (ho j y k).1.symm, fun p n h => (by cases h), fun p q n m b h => (by cases h), fun i x p n b _ h => (by cases h), fun n hn => ?_, fun p _ => rfl, hamb⟩
  · obtain ⟨rfl, rfl⟩ := ho i x h
    exact .inr ⟨g, (if_pos rfl : (if Oid.out 0 = .out 0 then some g else none) = some g), vs, T, hg, hr, h1, fun o h => h.2 rfl⟩
  · have hn : 1 ≤ n := hn
    show (if (Oid.out n) = .out 0 then some g else none) = none
    rw [if_neg (fun e => by cases e; omega)]

/-- What is known at some block below the row's stays known. -/
theorem Amb.row {w : World} {g : Nat} (hA : Known w) (h1 : ∀ x ∈ tabs, x.1 ≠ g) (h2 : ∀ x ∈ tabsP, x.1 ≠ g) (h3 : ∀ x ∈ tabsB, x.1 ≠ g) : Amb (Gh.row w g) w :=
  ⟨hA, fun x hx => ⟨World.block_lt_of_cell? w ⟨x.1, x.2.1, none⟩ (hA.1 x hx), h1 x hx⟩, fun x hx => let ⟨_, h, _⟩ := hA.2.1 x hx; ⟨World.block_lt_of_cell? w ⟨x.1, x.2.1, none⟩ h, h2 x hx⟩, fun x hx _ _ => ⟨(hA.2.2 x hx).1, h3 x hx⟩⟩

/-- A contract over the row: what it gives, for the kit. -/
theorem ACall.topRow {P : Program} {f : FuncId} {args : List AVal} {cs : List AVal} {Q : AVal → Sto → Prop} (h : ACall P f args (Sto.one (.cells cs)) Q) {w : World} {g : Nat} {vs : List Value} {T : TypeId}
    (hamb : Amb (Gh.row w g) w) (hg : w.heap[g]? = some (.cells vs.toArray T (0, 0))) (hr : RepL (Gh.row w g) w false cs vs) (h1 : ∀ v ∈ vs, v.oneCell' = true) {us : List Value} (hu : RepL (Gh.row w g) w false args us) :
    Calls P f us.toArray w fun e w' => ∃ v r γ' σ', e = .returned v ∧ Rep γ' w' false r v ∧ Q r σ' ∧ Go.RowKit.Below g w w' ∧
      ∀ o cells, σ'.obj o = some (.cells cells) → ∃ b vs' T', γ'.obj (.out o) = some b ∧ w'.heap[b]? = some (.cells vs'.toArray T' (0, 0)) ∧ RepL γ' w' false cells vs' ∧ (∀ v ∈ vs', v.oneCell' = true) ∧ (b = g ∨ w.heap.size ≤ b) := by
  have hm : ∀ b, Mut (Gh.row w g) (Sto.one (.cells cs)).O (Sto.one (.cells cs)).own b → b = g := fun b hb => by
    rcases hb with ⟨i, x, _, hx⟩ | ⟨p, n, hp, _⟩
    · have hx : (if i = .out 0 then some g else none) = some b := hx
      split at hx
      · cases hx; rfl
      · cases hx
    · cases hp
  refine (h (Gh.row w g) w us (Inv.row hamb hg hr h1) hu).mono fun e w' ⟨v, r, γ', σ', e1, e2, e3, e4, e5⟩ => ⟨v, r, γ', σ', e1, e2, e5, ⟨e4.os, e4.tape, e4.output, e4.size, fun k hk => ?_⟩, fun o cells ho => ?_⟩
  · have hgs : g < w.heap.size := (Array.getElem?_eq_some_iff.1 hg).1
    exact e4.old k (by omega) fun hk' => by have := hm k hk'; omega
  · obtain ⟨b, hb, vs', T', g1, g2, g3, _⟩ := e3.objc (i := .out o) (x := .cells cells) ho (fun s g hh => by cases hh)
    exact ⟨b, vs', T', hb, g1, g2, g3, (e4.mutd b (.inl ⟨.out o, .cells cells, ho, hb⟩)).imp (hm b) id⟩
/-- A contract over nothing: what it gives and what it has made, for the kit. -/
theorem ACall.topMade {P : Program} {f : FuncId} {args : List AVal} {Q : AVal → Sto → Prop} (h : ACall P f args Sto.empty Q) {w : World} (hA : Known w) {us : List Value} (hu : RepL (Gh.top w) w false args us) :
    Calls P f us.toArray w fun e w' => ∃ v r γ' σ', e = .returned v ∧ Rep γ' w' false r v ∧ Q r σ' ∧ Go.RowKit.Below w.heap.size w w' ∧
      ∀ o cells, σ'.obj o = some (.cells cells) → ∃ b vs' T', γ'.obj (.out o) = some b ∧ w'.heap[b]? = some (.cells vs'.toArray T' (0, 0)) ∧ RepL γ' w' false cells vs' ∧ (∀ v ∈ vs', v.oneCell' = true) ∧ w.heap.size ≤ b := by
  have hm : ∀ b, ¬ Mut (Gh.top w) Sto.empty.O Sto.empty.own b := fun b hb => by
    rcases hb with ⟨i, x, hx, _⟩ | ⟨p, n, hp, _⟩
    · exact top_none i x hx
    · cases hp
  refine (h (Gh.top w) w us (Inv.top w hA) hu).mono fun e w' ⟨v, r, γ', σ', e1, e2, e3, e4, e5⟩ => ⟨v, r, γ', σ', e1, e2, e5, ⟨e4.os, e4.tape, e4.output, e4.size, fun k hk => e4.old k hk (hm k)⟩, fun o cells ho => ?_⟩
  obtain ⟨b, hb, vs', T', g1, g2, g3, _⟩ := e3.objc (i := .out o) (x := .cells cells) ho (fun s g hh => by cases hh)
  exact ⟨b, vs', T', hb, g1, g2, g3, ((e4.mutd b (.inl ⟨.out o, .cells cells, ho, hb⟩)).resolve_left (hm b))⟩
end Go.AL
end

section
namespace Go.AL
set_option linter.unusedVariables false
/-- The blocks from n to m are never changed again, too. -/
def Gh.more (γ : Gh) (n m : Nat) : Gh := { γ with imm := fun b o => γ.imm b o ∨ (n ≤ b ∧ b < m) }
theorem Ext.more {l : Bool} {γ : Gh} {w w' : World} (hlt : ∀ b o, γ.imm b o → b < w.heap.size) (hb : Go.RowKit.Below w.heap.size w w') : Ext l γ w (γ.more w.heap.size w'.heap.size) w' :=
  ⟨fun b o hi => ⟨.inl hi, cell?_heap (hb.block b (hlt b o hi))⟩, fun _ _ _ h => h, fun p => OwnStep.refl _⟩
theorem Inv.more {γ : Gh} {w w' : World} {O : Oid → Option AObj} {W : Nat → Option Nat} {no nw : Nat} (h : Inv γ w O W no nw) (hb : Go.RowKit.Below w.heap.size w w') : Inv (γ.more w.heap.size w'.heap.size) w' O W no nw := by
  have e : ∀ l, Ext l γ w (γ.more w.heap.size w'.heap.size) w' := fun l => Ext.more (fun b o hi => h.imm_lt hi) hb
  refine ⟨fun b o hi => ?_, fun i x hx => ?_, h.inj, fun p n hp => ?_, h.ownInj, h.apart, h.freshO, h.freshW, h.amb.mono (e true) hb.size⟩
  · rcases hi with hi | hi
    · exact Nat.lt_of_lt_of_le (h.imm b o hi) hb.size
    · exact hi.2
  · rcases h.obj i x hx with h1 | ⟨b, hbk, hok⟩
    · exact .inl h1
    · refine .inr ⟨b, hbk, hok.mono (e _) (hb.block b hok.lt) fun o hi => ?_⟩
      rcases hi with hi | hi
      · exact hok.notImm o hi
      · have := hok.lt; omega
  · have hok := h.own p n hp
    refine hok.mono (fun b hbk => hb.block b (hok.lt hbk)) fun b o hbk hi => ?_
    rcases hi with hi | hi
    · exact hi
    · have := hok.lt hbk; omega
/-- It yields a value that may lead to new blocks, and what was there is as it was. -/
theorem PCall.ofMade {P : Program} {g : FuncId} {xs : List AVal} {v : AVal}
    (h : ∀ γ w vs, Amb γ w → RepL γ w false xs vs → Calls P g vs.toArray w fun e w' => ∃ u, e = .returned u ∧ Go.RowKit.Below w.heap.size w w' ∧ Rep (γ.more w.heap.size w'.heap.size) w' false v u) : PCall P g xs v :=
  fun σ γ w vs hi hr => (h γ w vs hi.amb hr).mono fun e w' ⟨u, h1, h2, h3⟩ =>
    ⟨u, v, γ.more w.heap.size w'.heap.size, σ, h1, h3, hi.more h2,
      ⟨h2.os, h2.tape, h2.output, h2.size, fun b hb _ => h2.block b hb, Ext.more (fun b o hm => hi.imm_lt hm) h2, fun b o hm => hm.elim .inl fun hm => .inr (.inl hm.1), fun b hm => .inl hm⟩, rfl, rfl⟩
end Go.AL
end
