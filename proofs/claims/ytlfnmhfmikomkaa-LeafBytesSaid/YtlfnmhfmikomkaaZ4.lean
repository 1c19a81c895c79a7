/-
  The texts H, A16, Hm, Hc, A17 of this seat, one behind the other.
-/
import Derived.Test.YtlfnmhfmikomkaaZ3

section
namespace Go.AL
set_option linter.unusedSimpArgs false
set_option linter.unusedVariables false

theorem dt {p : Prop} [Decidable p] (h : p) : decide p = true := decide_eq_true h

/-! ### Lists of one kind -/
theorem elemAt_map {β : Type} (f : β → AVal) (xs : List β) (i : Nat) (h : i < xs.length) : elemAt (xs.map f) (i : Int) = (f xs[i]).cells := by
  rw [elemAt_get (by simpa using h)]
  simp
theorem noOutL_map {β : Type} {f : β → AVal} (n : Nat) (h : ∀ x, (f x).noOut n = true) : ∀ xs : List β, noOutL n (xs.map f) = true
  | [] => rfl
  | x :: xs => by simp only [List.map_cons, noOutL, h x, noOutL_map n h xs, Bool.and_self]
theorem noTokL_map {β : Type} {f : β → AVal} (n : Nat) (h : ∀ x, (f x).noTok n = true) : ∀ xs : List β, noTokL n (xs.map f) = true
  | [] => rfl
  | x :: xs => by simp only [List.map_cons, noTokL, h x, noTokL_map n h xs, Bool.and_self]
theorem noLocL_map {β : Type} {f : β → AVal} (h : ∀ x, (f x).noLoc = true) : ∀ xs : List β, noLocL (xs.map f) = true
  | [] => rfl
  | x :: xs => by simp only [List.map_cons, noLocL, h x, noLocL_map h xs, Bool.and_self]
theorem flat_map {β : Type} {f : β → AVal} (h : ∀ x, (f x).cells = [f x]) : ∀ xs : List β, flat (xs.map f) = xs.map f
  | [] => rfl
  | x :: xs => by
    have := flat_map h xs
    simp only [flat, List.map_cons, List.flatMap_cons, h x] at this ⊢
    rw [this]; rfl
theorem take_drop_all {α : Type} (l : List α) (n : Nat) : List.take (l.length - n) (l.drop n) = l.drop n := List.take_of_length_le (by simp)
theorem i64_succ {i n : Nat} (h : i < n) (hn : n ≤ 140737488351232) : IntKind.i64.wrap ((i : Int) + 1) = ((i + 1 : Nat) : Int) := by rw [wrap_i64 (by omega) (by omega)]; rfl

/-! ### It has the width, or no elements -/
def okW (n s : Nat) (es : List AVal) : Bool := s == n || es.isEmpty
theorem okW_same (n : Nat) (es : List AVal) : okW n n es = true := by simp [okW]
theorem okW_nil (n s : Nat) : okW n s [] = true := by simp [okW]
theorem wkW {n s : Nat} {es : List AVal} (t : Tag) (h : okW n s es = true) : Wk (.slice es s t) (.slice es n .ro) := by
  simp only [okW, Bool.or_eq_true, beq_iff_eq] at h
  rcases h with rfl | h
  · exact Wk.ro es s t
  · have : es = [] := List.isEmpty_iff.1 h
    subst this
    exact Wk.nil s n t
theorem wkW_map {n s : Nat} {es : List AVal} {g : AVal → AVal} (t : Tag) (h : okW n s es = true) (hg : ∀ e ∈ es, WkL e.cells (g e).cells ∧ (g e).cells.length = e.cells.length) : Wk (.slice es s t) (.slice (es.map g) n .ro) := by
  simp only [okW, Bool.or_eq_true, beq_iff_eq] at h
  rcases h with rfl | h
  · exact Wk.elems hg
  · have : es = [] := List.isEmpty_iff.1 h
    subst this
    exact Wk.nil s n t

/-! ### Bytes -/
def bw (l : List UInt8) : List AVal := l.map ofByte
def byteIs : AVal → Bool
  | .int .u8 n => decide (0 ≤ n) && decide (n < 256)
  | _ => false
theorem u8_lt (b : UInt8) : b.toNat < 256 := b.toNat_lt
theorem bw_nil : bw [] = [] := rfl
theorem bw_cons (b : UInt8) (l : List UInt8) : bw (b :: l) = .int .u8 (b.toNat : Int) :: bw l := rfl
@[simp] theorem bw_length (l : List UInt8) : (bw l).length = l.length := by simp [bw]
theorem bw_append (a b : List UInt8) : bw (a ++ b) = bw a ++ bw b := by simp [bw]
theorem bw_take (a : List UInt8) (n : Nat) : bw (a.take n) = (bw a).take n := by simp [bw, List.map_take]
theorem bw_drop (a : List UInt8) (n : Nat) : bw (a.drop n) = (bw a).drop n := by simp [bw, List.map_drop]
theorem byteOf_ofByte (b : UInt8) : byteOf (ofByte b) = b := by simp [byteOf, ofByte]
@[simp] theorem map_byteOf_bw (l : List UInt8) : (bw l).map AL.byteOf = l := by
  simp only [bw, List.map_map]
  conv => rhs; rw [← List.map_id l]
  exact List.map_congr_left fun b _ => byteOf_ofByte b
@[simp] theorem bw_isU8 (l : List UInt8) : (bw l).all isU8 = true := by simp [bw, isU8, ofByte]
@[simp] theorem bw_byteIs (l : List UInt8) : (bw l).all byteIs = true := by
  simp only [bw, List.all_map, List.all_eq_true]
  intro b _
  have := u8_lt b
  simp [byteIs, ofByte]; omega
theorem elemAt_bw (l : List UInt8) (i : Nat) (h : i < l.length) : elemAt (bw l) (i : Int) = [.int .u8 (l[i].toNat : Int)] := elemAt_map ofByte l i h
theorem bw_noOut (n : Nat) (l : List UInt8) : noOutL n (bw l) = true := noOutL_map n (fun _ => rfl) l
theorem bw_noTok (n : Nat) (l : List UInt8) : noTokL n (bw l) = true := noTokL_map n (fun _ => rfl) l
theorem bw_noLoc (l : List UInt8) : noLocL (bw l) = true := noLocL_map (fun _ => rfl) l
theorem bw_of {es : List AVal} (h : es.all byteIs = true) : es = bw (es.map AL.byteOf) := by
  induction es with
  | nil => rfl
  | cons e es ih =>
    simp only [List.all_cons, Bool.and_eq_true] at h
    have h1 := h.1
    unfold byteIs at h1
    split at h1
    · rename_i n
      simp only [Bool.and_eq_true, decide_eq_true_eq] at h1
      simp only [List.map_cons, bw_cons, byteOf]
      rw [← ih h.2]
      congr 1
      have : (UInt8.ofNat n.toNat).toNat = n.toNat := by simp; omega
      rw [this]
      congr 1
      omega
    · cases h1
theorem wk_bw {s : Nat} {es : List AVal} (t : Tag) (hn : okW 1 s es = true) (h : es.all byteIs = true) : Wk (.slice es s t) (.slice (bw (es.map AL.byteOf)) 1 .ro) := by
  rw [← bw_of h]
  exact wkW t hn

/-! ### Numbers, texts -/
def iv (l : List Int) : List AVal := l.map (AVal.int .i64)
@[simp] theorem iv_length (l : List Int) : (iv l).length = l.length := by simp [iv]
theorem iv_append (a b : List Int) : iv (a ++ b) = iv a ++ iv b := by simp [iv]
theorem iv_take (a : List Int) (n : Nat) : iv (a.take n) = (iv a).take n := by simp [iv, List.map_take]
theorem iv_drop (a : List Int) (n : Nat) : iv (a.drop n) = (iv a).drop n := by simp [iv, List.map_drop]
theorem elemAt_iv (l : List Int) (i : Nat) (h : i < l.length) : elemAt (iv l) (i : Int) = [.int .i64 l[i]] := elemAt_map (AVal.int .i64) l i h
theorem iv_noOut (n : Nat) (l : List Int) : noOutL n (iv l) = true := noOutL_map n (fun _ => rfl) l
theorem iv_noTok (n : Nat) (l : List Int) : noTokL n (iv l) = true := noTokL_map n (fun _ => rfl) l
def isI64 : AVal → Bool
  | .int .i64 _ => true
  | _ => false
@[simp] theorem iv_isI64 (l : List Int) : (iv l).all isI64 = true := by simp [iv, isI64]
@[simp] theorem map_intOf_iv (l : List Int) : (iv l).map AVal.intOf = l := by
  simp only [iv, List.map_map]
  conv => rhs; rw [← List.map_id l]
  exact List.map_congr_left fun b _ => rfl
theorem iv_of {es : List AVal} (h : es.all isI64 = true) : es = iv (es.map AVal.intOf) := by
  induction es with
  | nil => rfl
  | cons e es ih =>
    simp only [List.all_cons, Bool.and_eq_true] at h
    have h1 := h.1
    unfold isI64 at h1
    split at h1
    · have := ih h.2
      simp only [iv, List.map_cons] at this ⊢
      rw [← this]
      rfl
    · cases h1
theorem wk_iv {s : Nat} {es : List AVal} (t : Tag) (hn : okW 1 s es = true) (h : es.all isI64 = true) : Wk (.slice es s t) (.slice (iv (es.map AVal.intOf)) 1 .ro) := by
  rw [← iv_of h]
  exact wkW t hn
def strv (l : List (List UInt8)) : List AVal := l.map AVal.str
@[simp] theorem strv_length (l : List (List UInt8)) : (strv l).length = l.length := by simp [strv]
theorem elemAt_strv (l : List (List UInt8)) (i : Nat) (h : i < l.length) : elemAt (strv l) (i : Int) = [.str l[i]] := elemAt_map AVal.str l i h
def bwsV (l : List UInt8) : AVal := .slice (bw l) 1 .ro
def bws (ls : List (List UInt8)) : List AVal := ls.map bwsV
@[simp] theorem bws_length (l : List (List UInt8)) : (bws l).length = l.length := by simp [bws]
theorem elemAt_bws (l : List (List UInt8)) (i : Nat) (h : i < l.length) : elemAt (bws l) (i : Int) = [.slice (bw l[i]) 1 .ro] := elemAt_map bwsV l i h
theorem bws_noOut (n : Nat) (l : List (List UInt8)) : noOutL n (bws l) = true := noOutL_map n (fun x => by simp [bwsV, AVal.noOut, bw_noOut]) l
theorem bws_noTok (n : Nat) (l : List (List UInt8)) : noTokL n (bws l) = true := noTokL_map n (fun x => by simp [bwsV, AVal.noTok, bw_noTok, Tag.below]) l
theorem bws_noLoc (l : List (List UInt8)) : noLocL (bws l) = true := noLocL_map (fun _ => rfl) l
def bytesIs : AVal → Bool
  | .slice es s _ => okW 1 s es && es.all byteIs
  | _ => false
def bytesOfV (v : AVal) : List UInt8 := v.elems.map AL.byteOf
theorem bytesIs_of {v : AVal} (h : bytesIs v = true) : WkL v.cells (bwsV (bytesOfV v)).cells ∧ (bwsV (bytesOfV v)).cells.length = v.cells.length := by
  unfold bytesIs at h
  split at h
  · rename_i es s t
    simp only [Bool.and_eq_true] at h
    exact ⟨.cons (wk_bw t h.1 h.2) (.refl _), rfl⟩
  · cases h
@[simp] theorem map_bytesOfV (ls : List (List UInt8)) : (bws ls).map bytesOfV = ls := by
  simp only [bws, List.map_map]
  conv => rhs; rw [← List.map_id ls]
  exact List.map_congr_left fun b _ => by simp [bytesOfV, bwsV, AVal.elems]
@[simp] theorem bws_is (ls : List (List UInt8)) : (bws ls).all bytesIs = true := by
  simp only [bws, List.all_map, List.all_eq_true]
  intro l _
  simp [bytesIs, bwsV, okW_same]
theorem wk_bws {s : Nat} {es : List AVal} (t : Tag) (hn : okW 1 s es = true) (h : es.all bytesIs = true) : Wk (.slice es s t) (.slice (bws (es.map bytesOfV)) 1 .ro) := by
  rw [bws, List.map_map]
  exact wkW_map t hn fun e he => bytesIs_of (List.all_eq_true.1 h e he)

/-! ### What comes in -/
theorem fits_bw {b : Nat} {a : AVal} (h : Fits (.slice (.int .u8) 1 b) a) : ∃ l : List UInt8, a = bwsV l ∧ l.length * b ≤ 140737488351232 := by
  obtain ⟨es, rfl, h1, h2⟩ := h
  have : es.all byteIs = true := by
    rw [List.all_eq_true]
    intro x hx
    obtain ⟨n, rfl, h3, h4⟩ := h2 x hx
    have h3 : 0 ≤ n := h3
    have h4 : n ≤ 255 := h4
    simp [byteIs, h3]; omega
  refine ⟨es.map AL.byteOf, ?_, by simpa using h1⟩
  conv => lhs; rw [bw_of this]
  rfl
theorem fits_bws {b : Nat} {a : AVal} (h : Fits (.slice (.slice (.int .u8) 1 1) 1 b) a) : ∃ ls : List (List UInt8), a = .slice (bws ls) 1 .ro ∧ ls.length * b ≤ 140737488351232 ∧ ∀ l ∈ ls, l.length ≤ 140737488351232 := by
  obtain ⟨es, rfl, h1, h2⟩ := h
  obtain ⟨ls, rfl, hx⟩ := map_of (f := bwsV) (P := fun l => l.length ≤ 140737488351232) fun e he => by
    obtain ⟨l, h3, h4⟩ := fits_bw (h2 e he)
    exact ⟨l, h3, by omega⟩
  exact ⟨ls, rfl, by simpa using h1, hx⟩
theorem fits_iv {b : Nat} {a : AVal} (h : Fits (.slice (.int .i64) 1 b) a) : ∃ l : List Int, a = .slice (iv l) 1 .ro ∧ l.length * b ≤ 140737488351232 ∧ ∀ n ∈ l, -9223372036854775808 ≤ n ∧ n ≤ 9223372036854775807 := by
  obtain ⟨es, rfl, h1, h2⟩ := h
  obtain ⟨ls, rfl, hx⟩ := map_of (f := AVal.int .i64) (P := fun n => -9223372036854775808 ≤ n ∧ n ≤ 9223372036854775807) fun e he => by
    obtain ⟨n, h3, h4, h5⟩ := h2 e he
    exact ⟨n, h3, h4, h5⟩
  exact ⟨ls, rfl, by simpa using h1, hx⟩

/-! ### Contracts over the empty store -/
theorem pcall_of {P : Program} {f : FuncId} {args args' : List AVal} {v : AVal} (hw : WkL args args') (h : ACall P f args' Sto.empty fun r _ => Wk r v) (ho : noOutL 0 args' = true) (ht : noTokL 0 args' = true) (hv : v.noOut 0 = true) (hv2 : v.noTok 0 = true) : PCall P f args v := by
  intro σ
  refine ACall.args ?_ hw
  have hs := sealL_noTok args' ht
  exact ACall.ofEmpty (by rw [hs]; exact h) (by rw [hs]; exact ho) hv hv2 (fun r τ hq => hq) σ
/-! ### Stores -/
theorem set_set (σ : Sto) (o : Nat) (x y : AObj) : (σ.set o x).set o y = σ.set o y := by
  simp only [Sto.set, Sto.mk.injEq, true_and, and_true]
  funext n; split <;> rfl
theorem set_setOwn (σ : Sto) (o p n : Nat) (x : AObj) : (σ.setOwn p n).set o x = (σ.set o x).setOwn p n := rfl
theorem setOwn_setOwn (σ : Sto) (p n m : Nat) : (σ.setOwn p n).setOwn p m = σ.setOwn p m := by
  simp only [Sto.setOwn, Sto.mk.injEq, true_and]
  funext q; split <;> rfl
theorem set_same {σ : Sto} {o : Nat} {x : AObj} (h : σ.obj o = some x) : σ.set o x = σ := by
  cases σ with
  | mk a b c d =>
    simp only [Sto.set, Sto.mk.injEq, true_and, and_true]
    funext n
    split
    · rename_i e; subst e; exact h.symm
    · rfl
theorem setOwn_same {σ : Sto} {p n : Nat} (h : σ.own p = some n) : σ.setOwn p n = σ := by
  cases σ with
  | mk a b c d =>
    simp only [Sto.setOwn, Sto.mk.injEq, true_and]
    funext q
    split
    · rename_i e; subst e; exact h.symm
    · rfl

/-! ### Permissions that are given up -/
theorem ACall.dropOwn {P : Program} {f : FuncId} {args : List AVal} {σ : Sto} {Q : AVal → Sto → Prop}
    (h : ACall P f args σ fun r τ => ∃ ow : Nat → Option Nat, (∀ p k, ow p = some k → τ.own p = some k) ∧ Q r { τ with own := ow }) : ACall P f args σ Q := by
  intro γ w vs hi hr
  refine (h γ w vs hi hr).mono fun e w' ⟨v, r, γ', τ, he, hrep, hinv, hev, ow, h1, hq⟩ => ?_
  refine ⟨v, r, γ', { τ with own := ow }, he, hrep, ?_, ?_, hq⟩
  · exact ⟨hinv.imm, hinv.obj, hinv.inj, fun p n hp => hinv.own p n (h1 p n hp), fun p q n m b hp hq => hinv.ownInj p q n m b (h1 p n hp) (h1 q m hq), fun i x p n b hx hp => hinv.apart i x p n b hx (h1 p n hp), hinv.freshO, hinv.freshW⟩
  · refine ⟨hev.os, hev.tape, hev.output, hev.size, hev.old, hev.ext, hev.new, fun b hb => hev.mutd b ?_⟩
    rcases hb with ⟨i, x, hx, hbi⟩ | ⟨p, k, hp, hbp⟩
    · exact .inl ⟨i, x, hx, hbi⟩
    · exact .inr ⟨p, k, h1 p k hp, hbp⟩
end Go.AL
end

section
namespace Go.AL
set_option linter.unusedSimpArgs false
set_option linter.unusedVariables false

/-! ### Rows, as they read -/
mutual
def viewA (ob : Nat → Option AObj) : AVal → AVal
  | .mrow k _ => match ob k with
    | some (.buf es s _) => .slice es s .ro
    | _ => .undef
  | .agg cs => .agg (viewL ob cs)
  | .tuple vs => .tuple (viewL ob vs)
  | a => a
def viewL (ob : Nat → Option AObj) : List AVal → List AVal
  | [] => []
  | a :: as => viewA ob a :: viewL ob as
end
mutual
noncomputable def viewOk (ob : Nat → Option AObj) : AVal → Bool
  | .mrow k len => match ob k with
    | some (.buf es _ g) => Nat.beq g (k + 1) && (hold (decide (len = es.length)) && (noOutL 0 es && noTokL 0 es))
    | _ => false
  | .agg cs => viewOkL ob cs
  | .tuple vs => viewOkL ob vs
  | a => a.noOut 0 && a.noTok 0
noncomputable def viewOkL (ob : Nat → Option AObj) : List AVal → Bool
  | [] => true
  | a :: as => viewOk ob a && viewOkL ob as
end
mutual
def AVal.hasRow : AVal → Bool
  | .mrow _ _ => true
  | .agg cs => hasRowL cs
  | .tuple vs => hasRowL vs
  | _ => false
def hasRowL : List AVal → Bool
  | [] => false
  | a :: as => a.hasRow || hasRowL as
end
mutual
/-- Nothing but numbers, texts, truth values. -/
def AVal.plain : AVal → Bool
  | .bool _ => true
  | .int _ _ => true
  | .str _ => true
  | .agg cs => plainL cs
  | .tuple vs => plainL vs
  | _ => false
def plainL : List AVal → Bool
  | [] => true
  | a :: as => a.plain && plainL as
end

mutual
theorem Rep.plain {γ γ2 : Gh} {w w2 : World} {l : Bool} : ∀ {a : AVal} {u : Value}, Rep γ w l a u → a.plain = true → Rep γ2 w2 l a u
  | .bool _, _, .bool _ _, _ => .bool _ _
  | .int _ _, _, .int _ _ _, _ => .int _ _ _
  | .str _, _, .str _ _, _ => .str _ _
  | .agg _, _, .agg h h1, e => .agg (RepL.plain h (by simpa [AVal.plain] using e)) h1
  | .tuple _, _, .tuple h, e => .tuple (RepL.plain h (by simpa [AVal.plain] using e))
theorem RepL.plain {γ γ2 : Gh} {w w2 : World} {l : Bool} : ∀ {as : List AVal} {us : List Value}, RepL γ w l as us → plainL as = true → RepL γ2 w2 l as us
  | [], _, .nil _, _ => .nil _
  | _ :: _, _, .cons h t, e => by
    simp only [plainL, Bool.and_eq_true] at e
    exact .cons (Rep.plain h e.1) (RepL.plain t e.2)
end

/-- The ghost under which the rows of a store never change, and nothing else is known. -/
def Gh.view (γ : Gh) (w : World) (σ : Sto) : Gh where
  imm := fun b o => γ.imm b o ∨ ((∃ v, w.cell? ⟨b, o, none⟩ = some v) ∧ ∃ k es s g, σ.obj k = some (.buf es s g) ∧ γ.obj (.out k) = some b)
  obj := fun _ => none
  own := fun _ => .free

theorem Ext.cut0 {γ γ2 : Gh} {w : World} (h : ∀ b o, γ.imm b o → γ2.imm b o) : Ext false (γ.cut 0 0) w γ2 w :=
  ⟨fun b o hb => ⟨h b o hb, rfl⟩, (fun i b hl hb => by
    cases i with
    | loc k => simp [Oid.isOut] at hl
    | out k => rw [cut0_obj] at hb; cases hb), fun p => by rw [cut0_own]; trivial⟩

theorem RepL.closed {γ γ2 : Gh} {w : World} {as : List AVal} {us : List Value} (h : RepL γ w false as us) (h1 : noOutL 0 as = true) (h2 : noTokL 0 as = true) (hi : ∀ b o, γ.imm b o → γ2.imm b o) : RepL γ2 w false as us := by
  have e := sealL_noTok as h2
  have := RepL.cut (n := 0) (m := 0) h (by rw [e]; exact h1)
  rw [e] at this
  exact RepL.mono (Ext.cut0 hi) this
theorem Rep.closed {γ γ2 : Gh} {w : World} {a : AVal} {u : Value} (h : Rep γ w false a u) (h1 : a.noOut 0 = true) (h2 : a.noTok 0 = true) (hi : ∀ b o, γ.imm b o → γ2.imm b o) : Rep γ2 w false a u := by
  have e := seal_noTok a h2
  have := Rep.cut (n := 0) (m := 0) h (by rw [e]; exact h1)
  rw [e] at this
  exact Rep.mono (Ext.cut0 hi) this

mutual
theorem Rep.view {γ : Gh} {w : World} {σ : Sto} (hi : Inv γ w σ.O σ.own σ.nobj σ.nown) : ∀ {a : AVal} {u : Value}, Rep γ w false a u → viewOk σ.obj a = true → Rep (γ.view w σ) w false (viewA σ.obj a) u
  | .mrow k len, _, .mrow (cap := cap) (a := ad) hc hn hb, e => by
    unfold viewOk at e
    unfold viewA
    split at e
    · rename_i es s g hk
      simp only [Bool.and_eq_true, hold_eq, decide_eq_true_eq] at e
      obtain ⟨e1, rfl, e2, e3⟩ := e
      have e1 := Nat.eq_of_beq_eq_true e1
      subst e1
      by_cases h0 : cap = 0
      · subst h0
        have hes : es = [] := List.eq_nil_of_length_eq_zero (by omega)
        subst hes
        exact .sliceNil trivial (.inr rfl)
      · obtain ⟨b, rfl, hb2⟩ := hb (by omega)
        obtain ⟨vs, junk, T, cap', h1, h2, h3, h4, h5, h6, h7, h8, h9⟩ := hi.objb (i := .out k) hk hb2
        rw [hc] at h5
        cases h5
        have hlv := h2.length
        refine .sliceRow (RepL.closed h2 (by rw [noOut_flat]; exact e2) (by rw [noTok_flat]; exact e3) fun b o h => .inl h) h3 (fun j v hj => ?_) (fun v hv => h4 v (List.mem_append_left _ hv)) hn h8 trivial
        have hlt : j < vs.length := (List.getElem?_eq_some_iff.1 hj).1
        have hcell : w.cell? ⟨b, 0 + j, none⟩ = some v := by
          simp only [World.cell?, h1, Nat.zero_add]
          simp only [Option.isSome_none, Bool.false_eq_true, if_false]
          rw [List.getElem?_toArray, List.getElem?_append_left hlt]
          exact hj
        exact ⟨.inr ⟨⟨v, hcell⟩, k, es, s, _, hk, hb2⟩, hcell⟩
    · cases e
  | .agg cs, _, .agg h h1, e => by
    unfold viewOk at e
    unfold viewA
    exact .agg (RepL.view hi h e) h1
  | .tuple cs, _, .tuple h, e => by
    unfold viewOk at e
    unfold viewA
    exact .tuple (RepL.view hi h e)
  | .undef, _, h, e => by simp only [viewOk, Bool.and_eq_true] at e; exact Rep.closed h e.1 e.2 fun b o h => .inl h
  | .bool _, _, h, e => by simp only [viewOk, Bool.and_eq_true] at e; exact Rep.closed h e.1 e.2 fun b o h => .inl h
  | .int _ _, _, h, e => by simp only [viewOk, Bool.and_eq_true] at e; exact Rep.closed h e.1 e.2 fun b o h => .inl h
  | .str _, _, h, e => by simp only [viewOk, Bool.and_eq_true] at e; exact Rep.closed h e.1 e.2 fun b o h => .inl h
  | .slice _ _ _, _, h, e => by simp only [viewOk, Bool.and_eq_true] at e; exact Rep.closed h e.1 e.2 fun b o h => .inl h
  | .arr _ _ _ _, _, h, e => by simp only [viewOk, Bool.and_eq_true] at e; exact Rep.closed h e.1 e.2 fun b o h => .inl h
  | .iptr _, _, h, e => by simp only [viewOk, Bool.and_eq_true] at e; exact Rep.closed h e.1 e.2 fun b o h => .inl h
  | .ptr _ _, _, h, e => by simp only [viewOk, Bool.and_eq_true] at e; exact Rep.closed h e.1 e.2 fun b o h => .inl h
  | .nilptr, _, h, e => by simp only [viewOk, Bool.and_eq_true] at e; exact Rep.closed h e.1 e.2 fun b o h => .inl h
  | .map _, _, h, e => by simp only [viewOk, Bool.and_eq_true] at e; exact Rep.closed h e.1 e.2 fun b o h => .inl h
  | .nilmap, _, h, e => by simp only [viewOk, Bool.and_eq_true] at e; exact Rep.closed h e.1 e.2 fun b o h => .inl h
  | .func _ _ _, _, h, e => by simp only [viewOk, Bool.and_eq_true] at e; exact Rep.closed h e.1 e.2 fun b o h => .inl h
  | .nilfunc, _, h, e => by simp only [viewOk, Bool.and_eq_true] at e; exact Rep.closed h e.1 e.2 fun b o h => .inl h
  | .iface _ _, _, h, e => by simp only [viewOk, Bool.and_eq_true] at e; exact Rep.closed h e.1 e.2 fun b o h => .inl h
  | .nilIface, _, h, e => by simp only [viewOk, Bool.and_eq_true] at e; exact Rep.closed h e.1 e.2 fun b o h => .inl h
theorem RepL.view {γ : Gh} {w : World} {σ : Sto} (hi : Inv γ w σ.O σ.own σ.nobj σ.nown) : ∀ {as : List AVal} {us : List Value}, RepL γ w false as us → viewOkL σ.obj as = true → RepL (γ.view w σ) w false (viewL σ.obj as) us
  | [], _, .nil _, _ => .nil _
  | _ :: _, _, .cons h t, e => by
    simp only [viewOkL, Bool.and_eq_true] at e
    exact .cons (Rep.view hi h e.1) (RepL.view hi t e.2)
end

theorem Inv.emptyOf {γ : Gh} {w : World} (h1 : ∀ b o, γ.imm b o → ∃ v, w.cell? ⟨b, o, none⟩ = some v) (h2 : ∀ n, γ.obj (.out n) = none) (h3 : ∀ p, γ.own p = .free) : Inv γ w Sto.empty.O Sto.empty.own Sto.empty.nobj Sto.empty.nown :=
  ⟨h1, fun i x hx => (top_none i x hx).elim, fun i j x y b hx => (top_none i x hx).elim, fun p n hp => (by cases hp), fun p q n m b hp => (by cases hp), fun i x p n b hx => (top_none i x hx).elim, fun n _ => h2 n, fun p _ => h3 p⟩

theorem Inv.viewOf {γ : Gh} {w : World} {σ : Sto} (hi : Inv γ w σ.O σ.own σ.nobj σ.nown) : Inv (γ.view w σ) w Sto.empty.O Sto.empty.own Sto.empty.nobj Sto.empty.nown :=
  Inv.emptyOf (fun b o h => h.elim (hi.imm b o) (fun h => h.1)) (fun _ => rfl) (fun _ => rfl)

/-- A CALL THAT ONLY READS, AND ANSWERS NUMBERS, TEXTS, TRUTH VALUES, READS MUTABLE ROWS AS ROWS THAT NEVER CHANGE. -/
theorem PCall.view {P : Program} {f : FuncId} {xs : List AVal} {v : AVal} {σ : Sto} (h : PCall P f (viewL σ.obj xs) v) (hok : viewOkL σ.obj xs = true) (hp : v.plain = true) : ACall P f xs σ fun r τ => r = v ∧ τ = σ := by
  intro γ w vs hi hr
  refine (h Sto.empty (γ.view w σ) w vs hi.viewOf (RepL.view hi hr hok)).mono fun e w' ⟨u, r, γ', τ, he, hrep, hinv, hev, hr1, hτ⟩ => ?_
  subst hr1
  have hmut : ∀ b, ¬ Mut (γ.view w σ) Sto.empty.O Sto.empty.own b := fun b hb => by
    rcases hb with ⟨i, x, hx, _⟩ | ⟨p, n, hp, _⟩
    · exact top_none i x hx
    · cases hp
  have hold : ∀ b, b < w.heap.size → w'.heap[b]? = w.heap[b]? := fun b hb => hev.old b hb (hmut b)
  have e1 : ∀ l, Ext l γ w γ w' := fun l => ⟨fun b o hb => ⟨hb, cell?_heap (hold b (hi.imm_lt hb))⟩, fun _ _ _ h => h, fun p => OwnStep.refl _⟩
  refine ⟨u, r, γ, σ, he, Rep.plain hrep hp, ?_, ?_, rfl, rfl⟩
  · refine ⟨fun b o hb => ?_, fun i x hx => ?_, hi.inj, fun p n hp => ?_, hi.ownInj, hi.apart, hi.freshO, hi.freshW⟩
    · obtain ⟨v, hv⟩ := hi.imm b o hb
      exact ⟨v, ((e1 true).imm b o hb).2.trans hv⟩
    · rcases hi.obj i x hx with h1 | ⟨b, hb, hok⟩
      · exact .inl h1
      exact .inr ⟨b, hb, hok.mono (e1 _) (hold b hok.lt) hok.notImm⟩
    · have hok := hi.own p n hp
      exact hok.mono (fun b hb => hold b (hok.lt hb)) (fun b o hb ho => ho)
  · exact ⟨hev.os, hev.tape, hev.output, hev.size, fun b hb _ => hold b hb, e1 false, fun b o hb => .inl hb, fun b hb => .inl hb⟩

noncomputable section
/-- What is told of a call that reads mutable rows. -/
def roAns (ok : Bool) (σ : Sto) : Ans → Ans
  | .pure c v => .full (ok && (c && v.plain)) v σ
  | .nm x f => .nm x fun y => roAns ok σ (f y)
  | .br b x y => .br b (roAns ok σ x) (roAns ok σ y)
  | _ => .pure false .undef
def roE (e : Ent) : Ent := (e.1, fun xs σ =>
  match hasRowL xs with
  | false => e.2 xs σ
  | true => match e.2 (viewL σ.obj xs) Sto.empty with
    | some a => some (roAns (viewOkL σ.obj xs) σ a)
    | none => none)
end

theorem roAns_ok {P : Program} {g : FuncId} {xs : List AVal} {σ : Sto} : ∀ (a : Ans), ansOk P g (viewL σ.obj xs) Sto.empty a → ansOk P g xs σ (roAns (viewOkL σ.obj xs) σ a) := by
  intro a
  induction a with
  | pure c v =>
    intro h hc
    simp only [Bool.and_eq_true] at hc
    exact PCall.view (h hc.2.1) hc.1 hc.2.2
  | own c v ow nw => intro _ hc; cases hc
  | full c v σ' => intro _ hc; cases hc
  | nm x f ih => intro h; exact ih x h
  | br b x y ihx ihy => intro h; exact ⟨fun e => ihx (h.1 e), fun e => ihy (h.2 e)⟩

theorem roE_ok {P : Program} {e : Ent} (h : EntOk P e) : EntOk P (roE e) := by
  intro xs σ
  simp only [roE]
  split
  · exact h xs σ
  · have := h (viewL σ.obj xs) Sto.empty
    split
    · rename_i a ha
      rw [ha] at this
      unfold AnsOk at this ⊢
      exact roAns_ok a this
    · trivial

/-! ### Rows, frozen at a call's end -/

/-- WHAT IS MADE OF MUTABLE ROWS IS FROZEN WHEN IT IS HANDED BACK. -/
theorem PCall.ofRows {P : Program} {f : FuncId} {args args' : List AVal} {v : AVal} (hw : WkL args args') (h : ACall P f args' Sto.empty fun r τ => ∃ r1, Wk r r1 ∧ viewOk τ.obj r1 = true ∧ Wk (viewA τ.obj r1) v)
    (ho : noOutL 0 args' = true) (ht : noTokL 0 args' = true) (hv : v.noOut 0 = true) (hv2 : v.noTok 0 = true) : PCall P f args v := by
  intro σ
  refine ACall.args ?_ hw
  intro γ w vs hi hr
  have hr0 : RepL (γ.cut 0 0) w false args' vs := by
    have e := sealL_noTok args' ht
    have := RepL.cut (n := 0) (m := 0) hr (by rw [e]; exact ho)
    rwa [e] at this
  have hi0 : Inv (γ.cut 0 0) w Sto.empty.O Sto.empty.own Sto.empty.nobj Sto.empty.nown := Inv.emptyOf hi.imm (cut0_obj γ) (cut0_own γ)
  refine (h (γ.cut 0 0) w vs hi0 hr0).mono fun e w' ⟨u, r, γ', τ, he, hrep, hinv, hev, r1, q1, q2, q3⟩ => ?_
  have hmut : ∀ b, ¬ Mut (γ.cut 0 0) Sto.empty.O Sto.empty.own b := fun b hb => by
    rcases hb with ⟨i, x, hx, _⟩ | ⟨p, n, hp, _⟩
    · exact top_none i x hx
    · cases hp
  have hold : ∀ b, b < w.heap.size → w'.heap[b]? = w.heap[b]? := fun b hb => hev.old b hb (hmut b)
  have hfz : ∀ b o, (γ'.view w' τ).imm b o → γ.imm b o ∨ w.heap.size ≤ b := fun b o hi' => by
    rcases hi' with h1 | ⟨_, k, es, s, g, hk, hb⟩
    · rcases hev.new b o h1 with h2 | h2 | h2
      · exact .inl h2
      · exact .inr h2
      · exact (hmut b h2).elim
    · rcases hev.mutd b (.inl ⟨.out k, _, hk, hb⟩) with h2 | h2
      · exact (hmut b h2).elim
      · exact .inr h2
  have hnew : ∀ b o, b < w.heap.size → (γ'.view w' τ).imm b o → γ.imm b o := fun b o hb hi' => (hfz b o hi').elim id (fun h => by omega)
  have e1 : ∀ l, Ext l γ w { γ with imm := (γ'.view w' τ).imm } w' := fun l => ⟨fun b o hb => ⟨.inl (hev.ext.imm b o hb).1, (hev.ext.imm b o hb).2⟩, fun _ _ _ h => h, fun p => OwnStep.refl _⟩
  have hrv : Rep (γ'.view w' τ) w' false v u := q3 _ _ _ _ (Rep.view hinv (q1 _ _ _ _ hrep) q2)
  refine ⟨u, v, { γ with imm := (γ'.view w' τ).imm }, σ, he, Rep.closed hrv hv hv2 (fun b o h => h), ?_, ?_, rfl, rfl⟩
  · refine ⟨fun b o hb => ?_, fun i x hx => ?_, hi.inj, fun p n hp => ?_, hi.ownInj, hi.apart, hi.freshO, hi.freshW⟩
    · exact hb.elim (hinv.imm b o) (fun h => h.1)
    · rcases hi.obj i x hx with h1 | ⟨b, hb, hok⟩
      · exact .inl h1
      exact .inr ⟨b, hb, hok.mono (e1 _) (hold b hok.lt) (fun o ho => hok.notImm o (hnew b o hok.lt ho))⟩
    · have hok := hi.own p n hp
      exact hok.mono (fun b hb => hold b (hok.lt hb)) (fun b o hb ho => hnew b o (hok.lt hb) ho)
  · exact ⟨hev.os, hev.tape, hev.output, hev.size, fun b hb _ => hold b hb, e1 false, fun b o hb => (hfz b o hb).imp_right .inl, fun b hb => .inl hb⟩

/-! ### A row is made -/

def Sto.pushRow (σ : Sto) (es : List AVal) (s : Nat) : Sto := { σ with nobj := σ.nobj + 2, obj := fun n => if n = σ.nobj then some (.buf es s (σ.nobj + 1)) else σ.obj n }
def Sto.del (σ : Sto) (k : Nat) : Sto := { σ with obj := fun n => if n = k then none else σ.obj n }
def Sto.one (x : AObj) : Sto := { nobj := 1, obj := fun n => if n = 0 then some x else none, nown := 0, own := fun _ => none }

theorem hole.setGh {γ : Gh} {i : Oid} {x : AObj} (h : hole γ i x) {n : Nat} {y : Option Nat} (hf : γ.obj (.out n) = none) (hi : i ≠ .out n) : hole (γ.setObj (.out n) y) i x := by
  obtain ⟨j, s, h1, h2, h3, h4⟩ := h
  subst h1
  have e1 : j ≠ n := fun e => hi (by rw [e])
  have e2 : j + 1 ≠ n := fun e => by rw [e, hf] at h4; cases h4
  exact ⟨j, s, rfl, h2, by simpa [Gh.setObj, e1] using h3, by simpa [Gh.setObj, e2] using h4⟩

/-- A NEW ARRAY, OR NONE, IS A MUTABLE ROW. -/
theorem ACall.closeRow {P : Program} {f : FuncId} {args : List AVal} {σ : Sto} {es : List AVal} {s : Nat} (hs : 0 < s) (hes : ∀ e ∈ es, e.cells.length = s)
    (h : ACall P f args σ fun r τ => (es = [] ∧ τ = σ ∧ ∃ s', r = .slice [] s' .nil ∨ r = .slice [] s' .full) ∨
      ∃ k jk, r = .arr (.out σ.nobj) 0 es.length (es.length + k) ∧ τ = σ.push (.cells (flat es ++ jk)) ∧ jk.length = k * s ∧ es.length + k ≤ 9223372036854775807) :
    ACall P f args σ fun r τ => r = .mrow σ.nobj es.length ∧ τ = σ.pushRow es s := by
  intro γ w vs hi hr
  refine (h γ w vs hi hr).mono fun e w' ⟨u, r, γ', τ, he, hrep, hinv, hev, hq⟩ => ?_
  rcases hq with ⟨rfl, rfl, s', hr1⟩ | ⟨k, jk, rfl, rfl, hjk, hmax⟩
  · -- no row
    obtain ⟨a, rfl⟩ : ∃ a, u = .slice a 0 0 := by
      have key : ∀ t, r = .slice [] s' t → (t = .nil ∨ t = .full) → ∃ a, u = .slice a 0 0 := by
        intro t hrt ht
        subst hrt
        generalize hel : ([] : List AVal) = el at hrep
        cases hrep with
        | sliceRow hr hs hc h1 hnc hm htr =>
          subst hel
          rcases ht with rfl | rfl
          · exact htr.elim
          · simp only [AL.tagRow, List.length_nil] at htr
            subst htr
            exact ⟨_, rfl⟩
        | sliceNil _ _ => exact ⟨_, rfl⟩
      rcases hr1 with hr1 | hr1
      · exact key _ hr1 (.inl rfl)
      · exact key _ hr1 (.inr rfl)
    have hf0 := hinv.freshO τ.nobj (Nat.le_refl _)
    have hf1 := hinv.freshO (τ.nobj + 1) (by omega)
    have eO : ∀ i, (τ.pushRow [] s).O i = if i = .out τ.nobj then some (.buf [] s (τ.nobj + 1)) else τ.O i := fun i => by cases i <;> simp [Sto.O, Sto.pushRow]
    have e : ∀ l, Ext l γ' w' (γ'.setObj (.out (τ.nobj + 1)) (some 0)) w' := fun l => ⟨fun b o hb => ⟨hb, rfl⟩, fun i b _ hb => by
      have : i ≠ .out (τ.nobj + 1) := by rintro rfl; rw [hf1] at hb; cases hb
      simpa [Gh.setObj, this] using hb, fun p => OwnStep.refl _⟩
    have hne : ∀ i x, (τ.pushRow [] s).O i = some x → i ≠ .out (τ.nobj + 1) := fun i x hx hi1 => by
      subst hi1
      rw [eO] at hx
      simp at hx
      rcases hinv.obj _ _ hx with ⟨j, s2, g1, g2, g3, g4⟩ | ⟨b, hb, _⟩
      · cases g1
        rw [hinv.freshO (τ.nobj + 1 + 1) (by omega)] at g4; cases g4
      · rw [hf1] at hb; cases hb
    have hgo : ∀ i, i ≠ .out (τ.nobj + 1) → (γ'.setObj (.out (τ.nobj + 1)) (some 0)).obj i = γ'.obj i := fun i hi1 => by simp [Gh.setObj, hi1]
    have hold : ∀ i x b, (τ.pushRow [] s).O i = some x → (γ'.setObj (.out (τ.nobj + 1)) (some 0)).obj i = some b → τ.O i = some x ∧ γ'.obj i = some b := fun i x b hx hb => by
      rw [hgo i (hne i x hx)] at hb
      rw [eO] at hx
      split at hx
      · rename_i e1; subst e1; rw [hf0] at hb; cases hb
      · exact ⟨hx, hb⟩
    refine ⟨.slice a 0 0, .mrow τ.nobj 0, γ'.setObj (.out (τ.nobj + 1)) (some 0), τ.pushRow [] s, he, .mrow (cap := 0) (by simp [Gh.setObj]) (Nat.le_refl _) (fun h => by omega), ?_, ?_, rfl, rfl⟩
    · refine ⟨hinv.imm, fun i x hx => ?_, fun i j x y b hx hy hbi hbj => ?_, hinv.own, hinv.ownInj, fun i x p n b hx hp hbi hbp => ?_, fun n hn => ?_, hinv.freshW⟩
      · have hx0 := hx
        rw [eO] at hx
        split at hx
        · rename_i e1
          cases hx
          exact .inl ⟨τ.nobj, s, e1, rfl, by simpa [Gh.setObj] using hf0, by simp [Gh.setObj]⟩
        · rename_i e1
          rcases hinv.obj i x hx with h1 | ⟨b, hb, hok⟩
          · exact .inl (h1.setGh hf1 (hne i x hx0))
          · exact .inr ⟨b, by rw [hgo i (hne i x hx0)]; exact hb, hok.mono (e _) rfl hok.notImm⟩
      · obtain ⟨h1, h2⟩ := hold i x b hx hbi
        obtain ⟨h3, h4⟩ := hold j y b hy hbj
        exact hinv.inj i j x y b h1 h3 h2 h4
      · obtain ⟨h1, h2⟩ := hold i x b hx hbi
        exact hinv.apart i x p n b h1 hp h2 hbp
      · have hn : τ.nobj + 2 ≤ n := hn
        have := hinv.freshO n (by omega)
        have hne : n ≠ τ.nobj + 1 := by omega
        simpa [Gh.setObj, hne] using this
    · refine hev.trans ⟨rfl, rfl, rfl, Nat.le_refl _, fun _ _ _ => rfl, e false, fun b o hb => .inl hb, fun b hb => .inl ?_⟩
      rcases hb with ⟨i, x, hx, hbi⟩ | hb
      · obtain ⟨h1, h2⟩ := hold i x b hx hbi
        exact .inl ⟨i, x, h1, h2⟩
      · exact .inr hb
  · -- an array
    cases hrep with
    | @arr _ _ _ off' _ _ b hb hoo hnc h0 =>
      have hpush : (σ.push (.cells (flat es ++ jk))).O (.out σ.nobj) = some (.cells (flat es ++ jk)) := by simp [Sto.O, Sto.push]
      obtain ⟨ws, T, hh, hrw, h1w, hni⟩ := hinv.objb hpush hb
      have hsplit := RepL.split hrw
      have hlf := flat_length hes
      have hlw := hrw.length
      have hf1 := hinv.freshO (σ.nobj + 1) (Nat.le_refl _)
      have eO : ∀ i, (σ.pushRow es s).O i = if i = .out σ.nobj then some (.buf es s (σ.nobj + 1)) else (σ.push (.cells (flat es ++ jk))).O i := fun i => by
        cases i with
        | loc k => rfl
        | out k => by_cases h : k = σ.nobj <;> simp [Sto.O, Sto.pushRow, Sto.push, h]
      have e : ∀ l, Ext l γ' w' (γ'.setObj (.out (σ.nobj + 1)) (some (es.length + k))) w' := fun l => ⟨fun b o hb => ⟨hb, rfl⟩, fun i b _ hb => by
        have : i ≠ .out (σ.nobj + 1) := by rintro rfl; rw [hf1] at hb; cases hb
        simpa [Gh.setObj, this] using hb, fun p => OwnStep.refl _⟩
      have hgo : ∀ i, i ≠ .out (σ.nobj + 1) → (γ'.setObj (.out (σ.nobj + 1)) (some (es.length + k))).obj i = γ'.obj i := fun i hi1 => by simp [Gh.setObj, hi1]
      have hne : ∀ i x, (σ.pushRow es s).O i = some x → i ≠ .out (σ.nobj + 1) := fun i x hx hi1 => by
        subst hi1
        rw [eO] at hx
        simp at hx
        rcases hinv.obj _ _ hx with ⟨j, s2, g1, g2, g3, g4⟩ | ⟨b, hb, _⟩
        · cases g1
          have hq := hinv.freshO (σ.nobj + 1 + 1) (by simp [Sto.push])
          rw [hq] at g4; cases g4
        · rw [hf1] at hb; cases hb
      have hold : ∀ i x b', (σ.pushRow es s).O i = some x → (γ'.setObj (.out (σ.nobj + 1)) (some (es.length + k))).obj i = some b' → ∃ y, (σ.push (.cells (flat es ++ jk))).O i = some y ∧ γ'.obj i = some b' := fun i x b' hx hb' => by
        rw [hgo i (hne i x hx)] at hb'
        rw [eO] at hx
        split at hx
        · rename_i e1; subst e1; exact ⟨_, hpush, hb'⟩
        · exact ⟨x, hx, hb'⟩
      refine ⟨_, .mrow σ.nobj es.length, γ'.setObj (.out (σ.nobj + 1)) (some (es.length + k)), σ.pushRow es s, he, .mrow (cap := es.length + k) (by simp [Gh.setObj]) (by omega) (fun h => ⟨b, by rw [h0 h], by rw [hgo _ (by simp)]; exact hb⟩), ?_, ?_, rfl, rfl⟩
      · refine ⟨hinv.imm, fun i x hx => ?_, fun i j x y b' hx hy hbi hbj => ?_, hinv.own, hinv.ownInj, fun i x p n b' hx hp hbi hbp => ?_, fun n hn => ?_, hinv.freshW⟩
        · have hx0 := hx
          rw [eO] at hx
          split at hx
          · rename_i e1
            subst e1
            cases hx
            refine .inr ⟨b, by rw [hgo _ (by simp)]; exact hb, ws.take (flat es).length, ws.drop (flat es).length, T, es.length + k, by rw [List.take_append_drop]; exact hh, RepL.mono (e _) hsplit.1, hes, fun v hv => ?_, by simp [Gh.setObj], ?_, hs, ?_, hni⟩
            · rw [List.take_append_drop] at hv; exact h1w v hv
            · rw [List.take_append_drop, ← hlw, List.length_append, hlf, hjk, Nat.add_mul]
            · simp [maxLen]; omega
          · rename_i e1
            rcases hinv.obj i x hx with h1 | ⟨b', hb', hok⟩
            · exact .inl (h1.setGh hf1 (hne i x hx0))
            · exact .inr ⟨b', by rw [hgo i (hne i x hx0)]; exact hb', hok.mono (e _) rfl hok.notImm⟩
        · obtain ⟨y1, h1, h2⟩ := hold i x b' hx hbi
          obtain ⟨y2, h3, h4⟩ := hold j y b' hy hbj
          exact hinv.inj i j y1 y2 b' h1 h3 h2 h4
        · obtain ⟨y1, h1, h2⟩ := hold i x b' hx hbi
          exact hinv.apart i y1 p n b' h1 hp h2 hbp
        · have hn : σ.nobj + 2 ≤ n := hn
          have hq := hinv.freshO n (by simp only [Sto.push]; omega)
          have hne : n ≠ σ.nobj + 1 := by omega
          simpa [Gh.setObj, hne] using hq
      · refine hev.trans ⟨rfl, rfl, rfl, Nat.le_refl _, fun _ _ _ => rfl, e false, fun b o hb => .inl hb, fun b' hb' => .inl ?_⟩
        rcases hb' with ⟨i, x, hx, hbi⟩ | hb'
        · obtain ⟨y1, h1, h2⟩ := hold i x b' hx hbi
          exact .inl ⟨i, y1, h1, h2⟩
        · exact .inr hb'

/-! ### A row is used up -/

theorem ACall.drop {P : Program} {f : FuncId} {args : List AVal} {σ : Sto} {v : AVal} (h : ACall P f args σ fun r τ => r = v ∧ τ = σ) (k : Nat) : ACall P f args σ fun r τ => r = v ∧ τ = σ.del k := by
  intro γ w vs hi hr
  refine (h γ w vs hi hr).mono fun e w' ⟨u, r, γ', τ, he, hrep, hinv, hev, h1, h2⟩ => ?_
  subst h2
  have hO : ∀ i x, (τ.del k).O i = some x → τ.O i = some x := fun i x hx => by
    cases i with
    | loc j => cases hx
    | out n =>
      simp only [Sto.O, Sto.del] at hx ⊢
      split at hx
      · cases hx
      · exact hx
  refine ⟨u, r, γ', τ.del k, he, hrep, hinv.sub hO, ?_, h1, rfl⟩
  exact hev.trans ⟨rfl, rfl, rfl, Nat.le_refl _, fun _ _ _ => rfl, Ext.refl _ _ _, fun b o hb => .inl hb, fun b hb => .inl (Mut.sub hO hb)⟩

/-- A CALL THAT USES UP A MUTABLE ROW, AND HANDS BACK A ROW THAT IS FROZEN. -/
theorem ACall.openRow {P : Program} {f : FuncId} {rest : List AVal} {σ : Sto} {k s : Nat} {es es' : List AVal} (hk : σ.obj k = some (.buf es s (k + 1))) (he1 : noOutL 0 es = true) (he2 : noTokL 0 es = true)
    (hr1 : noOutL 0 rest = true) (hr2 : noTokL 0 rest = true) (ho1 : noOutL 0 es' = true) (ho2 : noTokL 0 es' = true) (hes' : ∀ e ∈ es', e.cells.length = s)
    (h0 : es = [] → ACall P f (.slice [] s .full :: rest) Sto.empty fun r _ => Wk r (.slice es' s .ro))
    (h1 : ∀ j c, es.length ≤ c → es.length * s + j = c * s → c ≤ 9223372036854775807 → ACall P f (.arr (.out 0) 0 es.length c :: rest) (Sto.one (.cells (flat es ++ List.replicate j .undef))) fun r τ =>
      Wk r (.slice es' s .ro) ∨ ∃ o cap tl, r = .arr (.out o) 0 es'.length cap ∧ τ.obj o = some (.cells (flat es' ++ tl)) ∧ cap ≤ 9223372036854775807) :
    ACall P f (.mrow k es.length :: rest) σ fun r τ => r = .slice es' s .ro ∧ τ = σ.del k := by
  intro γ w vs hi hr
  cases hr with
  | cons hm hrest =>
    rename_i v vs
    cases hm with
    | @mrow _ _ _ cap a hc hn hb =>
      by_cases hz : cap = 0
      · -- it has no room
        subst hz
        have hes : es = [] := List.eq_nil_of_length_eq_zero (by omega)
        subst hes
        have hh := h0 rfl
        have hE := ACall.ofEmpty (args := .slice [] s .full :: rest) (v := .slice es' s .ro) (by rw [sealL_noTok _ (by simp [noTokL, AVal.noTok, Tag.below, hr2])]; exact hh) (by rw [sealL_noTok _ (by simp [noTokL, AVal.noTok, Tag.below, hr2])]; simp [noOutL, AVal.noOut, hr1]) (by simp [AVal.noOut, ho1]) (by simp [AVal.noTok, Tag.below, ho2]) (fun r τ hq => hq) σ
        exact hE.drop k γ w _ hi (.cons (Rep.sliceNil (tag := .full) trivial (.inr rfl)) hrest)
      · obtain ⟨b, rfl, hb2⟩ := hb (by omega)
        obtain ⟨ws, junk, T, cap', g1, g2, g3, g4, g5, g6, g7, g8, g9⟩ := hi.objb (i := .out k) hk hb2
        rw [hc] at g5
        cases g5
        have hlw := g2.length
        rw [flat_length g3] at hlw
        have hlt : b < w.heap.size := block_lt g1
        let γ0 : Gh := { imm := γ.imm, obj := fun i => if i = .out 0 then some b else none, own := fun _ => .free }
        have hi0 : Inv γ0 w (Sto.one (.cells (flat es ++ List.replicate junk.length .undef))).O (Sto.one (.cells (flat es ++ List.replicate junk.length .undef))).own 1 0 := by
          have hO : ∀ i x, (Sto.one (.cells (flat es ++ List.replicate junk.length .undef))).O i = some x → i = .out 0 ∧ x = .cells (flat es ++ List.replicate junk.length .undef) := fun i x hx => by
            cases i with
            | loc j => cases hx
            | out n =>
              simp only [Sto.O, Sto.one] at hx
              split at hx
              · rename_i e; subst e; cases hx; exact ⟨rfl, rfl⟩
              · cases hx
          refine ⟨hi.imm, fun i x hx => ?_, fun i j x y b' hx hy _ _ => ?_, fun p n hp => (by cases hp), fun p q n m b hp => (by cases hp), fun i x p n b hx hp => (by cases hp), fun n hn => ?_, fun p _ => rfl⟩
          · obtain ⟨rfl, rfl⟩ := hO i x hx
            refine .inr ⟨b, by simp [γ0], ws ++ junk, T, g1, RepL.append (RepL.undefs _ _ _ _ _ rfl) (RepL.closed g2 (by rw [noOut_flat]; exact he1) (by rw [noTok_flat]; exact he2) fun _ _ h => h), g4, g9⟩
          · rw [(hO i x hx).1, (hO j y hy).1]
          · have : n ≠ 0 := by omega
            simp [γ0, this]
        have hrest0 : RepL γ0 w false rest vs := RepL.closed hrest hr1 hr2 fun _ _ h => h
        have hcall := h1 junk.length cap hn (by rw [← g6, List.length_append, ← hlw]) (by simp [maxLen] at g8; omega)
        refine (hcall γ0 w _ hi0 (.cons (Rep.arr (off' := 0) (by simp [γ0]) (.inr rfl) hn (fun _ => rfl)) hrest0)).mono fun e w' ⟨u, r, γ', τ, he, hrep, hinv, hev, hq⟩ => ?_
        have hmut : ∀ b', Mut γ0 (Sto.one (.cells (flat es ++ List.replicate junk.length .undef))).O (Sto.one (.cells (flat es ++ List.replicate junk.length .undef))).own b' → b' = b := fun b' hb' => by
          rcases hb' with ⟨i, x, _, hbi⟩ | ⟨p, n, hp, _⟩
          · simp only [γ0] at hbi
            split at hbi
            · cases hbi; rfl
            · cases hbi
          · cases hp
        have hold : ∀ b', b' < w.heap.size → b' ≠ b → w'.heap[b']? = w.heap[b']? := fun b' hb' hne => hev.old b' hb' (fun h => hne (hmut b' h))
        -- the frozen row
        obtain ⟨I, hI1, hI2, hI3, hrv⟩ : ∃ I : Nat → Nat → Prop, (∀ b' o, γ'.imm b' o → I b' o) ∧ (∀ b' o, I b' o → γ.imm b' o ∨ w.heap.size ≤ b' ∨ b' = b) ∧ (∀ b' o, I b' o → ∃ v, w'.cell? ⟨b', o, none⟩ = some v) ∧
            Rep { imm := I, obj := γ'.obj, own := γ'.own } w' false (.slice es' s .ro) u := by
          have hbase : ∀ b' o, γ'.imm b' o → γ.imm b' o ∨ w.heap.size ≤ b' ∨ b' = b := fun b' o h => by
            rcases hev.new b' o h with h2 | h2 | h2
            · exact .inl h2
            · exact .inr (.inl h2)
            · exact .inr (.inr (hmut b' h2))
          rcases hq with hq | ⟨o, cp, tl, rfl, hτ, hcp⟩
          · exact ⟨γ'.imm, fun _ _ h => h, hbase, hinv.imm, hq _ _ _ _ hrep⟩
          · cases hrep with
            | @arr _ _ _ off' _ _ b' hb' hoo hnc h00 =>
              obtain ⟨us, T', k1, k2, k3, k4⟩ := hinv.objb (i := .out o) hτ hb'
              have hlu := k2.length
              refine ⟨fun b1 o1 => γ'.imm b1 o1 ∨ (b1 = b' ∧ ∃ v, w'.cell? ⟨b1, o1, none⟩ = some v), fun _ _ h => .inl h, fun b1 o1 h => ?_, fun b1 o1 h => h.elim (hinv.imm b1 o1) (fun h => h.2), ?_⟩
              · rcases h with h | ⟨rfl, _⟩
                · exact hbase b1 o1 h
                · rcases hev.mutd b1 (.inl ⟨.out o, _, hτ, hb'⟩) with h2 | h2
                  · exact .inr (.inr (hmut b1 h2))
                  · exact .inr (.inl h2)
              · by_cases hcz : cp = 0
                · subst hcz
                  have : es' = [] := List.eq_nil_of_length_eq_zero (by omega)
                  subst this
                  exact .sliceNil trivial (.inr rfl)
                · obtain rfl := h00 (by omega)
                  have hsp := (RepL.split k2).1
                  refine .sliceRow (RepL.mono ⟨fun b1 o1 h => ⟨.inl h, rfl⟩, fun _ _ _ h => h, fun p => OwnStep.refl _⟩ hsp) hes' (fun j v hj => ?_) (fun v hv => k3 v (List.mem_of_mem_take hv)) hnc (by simp [maxLen]; omega) trivial
                  have hcell : w'.cell? ⟨b', 0 + j, none⟩ = some v := by
                    simp only [World.cell?, k1, Nat.zero_add]
                    simp only [Option.isSome_none, Bool.false_eq_true, if_false]
                    rw [List.getElem?_toArray]
                    rw [List.getElem?_take] at hj
                    split at hj
                    · exact hj
                    · cases hj
                  exact ⟨.inr ⟨rfl, v, hcell⟩, hcell⟩
        have hext : ∀ l, Ext l γ w { imm := I, obj := γ.obj, own := γ.own } w' := fun l => ⟨fun b' o h => ⟨hI1 b' o (hev.ext.imm b' o h).1, (hev.ext.imm b' o h).2⟩, fun _ _ _ h => h, fun p => OwnStep.refl _⟩
        have hnoti : ∀ b' o, b' < w.heap.size → b' ≠ b → I b' o → γ.imm b' o := fun b' o h2 h3 h => by
          rcases hI2 b' o h with h4 | h4 | h4
          · exact h4
          · omega
          · exact (h3 h4).elim
        have hO : ∀ i x, (σ.del k).O i = some x → σ.O i = some x ∧ i ≠ .out k := fun i x hx => by
          cases i with
          | loc j => cases hx
          | out n =>
            simp only [Sto.O, Sto.del] at hx ⊢
            split at hx
            · cases hx
            · rename_i hne; exact ⟨hx, fun e => hne (by cases e; rfl)⟩
        refine ⟨u, .slice es' s .ro, { imm := I, obj := γ.obj, own := γ.own }, σ.del k, he, Rep.closed hrv (by simp [AVal.noOut, ho1]) (by simp [AVal.noTok, Tag.below, ho2]) (fun _ _ h => h), ?_, ?_, rfl, rfl⟩
        · refine ⟨hI3, fun i x hx => ?_, fun i j x y b' hx hy => hi.inj i j x y b' (hO i x hx).1 (hO j y hy).1, fun p n hp => ?_, hi.ownInj, fun i x p n b' hx => hi.apart i x p n b' (hO i x hx).1, hi.freshO, hi.freshW⟩
          · obtain ⟨hx1, hx2⟩ := hO i x hx
            rcases hi.obj i x hx1 with h2 | ⟨b', hb', hok⟩
            · exact .inl h2
            have hbb : b' ≠ b := fun e => hx2 (hi.inj i (.out k) x _ b' hx1 hk hb' (e ▸ hb2))
            exact .inr ⟨b', hb', hok.mono (hext _) (hold b' hok.lt hbb) (fun o ho => hok.notImm o (hnoti b' o hok.lt hbb ho))⟩
          · have hok := hi.own p n hp
            have hbb : ∀ b', (γ.own p).blk = some b' → b' ≠ b := fun b' hb' e => hi.apart (.out k) _ p n b' hk hp (e ▸ hb2) hb'
            exact hok.mono (fun b' hb' => hold b' (hok.lt hb') (hbb b' hb')) (fun b' o hb' ho => hnoti b' o (hok.lt hb') (hbb b' hb') ho)
        · refine ⟨hev.os, hev.tape, hev.output, hev.size, fun b' hb' hm => hold b' hb' (fun e => hm (.inl ⟨.out k, _, hk, e ▸ hb2⟩)), hext false, fun b' o h => ?_, fun b' hb' => .inl (Mut.sub (fun i x hx => (hO i x hx).1) hb')⟩
          rcases hI2 b' o h with h2 | h2 | h2
          · exact .inl h2
          · exact .inr (.inl h2)
          · exact .inr (.inr (.inl ⟨.out k, _, hk, h2 ▸ hb2⟩))
end Go.AL
end

section
namespace Go.AL
set_option linter.unusedSimpArgs false
set_option linter.unusedVariables false

section
variable {β : Type}
def mi (f : β → AVal) (m : List (Int × β)) : List (AVal × AVal) := m.map fun x => (.int .i64 x.1, f x.2)
def getI (m : List (Int × β)) (k : Int) : Option β := (m.find? fun x => x.1 == k).map (·.2)
def putI (k : Int) (v : β) : List (Int × β) → List (Int × β)
  | [] => [(k, v)]
  | x :: r => if x.1 = k then (k, v) :: r else x :: putI k v r
def delI (k : Int) : List (Int × β) → List (Int × β)
  | [] => []
  | x :: r => if x.1 = k then r else x :: delI k r
@[simp] theorem mi_length (f : β → AVal) (m : List (Int × β)) : (mi f m).length = m.length := by simp [mi]
theorem getI_nil (k : Int) : getI ([] : List (Int × β)) k = none := rfl
theorem getI_cons (x : Int × β) (m : List (Int × β)) (k : Int) : getI (x :: m) k = if x.1 = k then some x.2 else getI m k := by
  simp only [getI, List.find?_cons]
  by_cases h : x.1 = k
  · simp [h]
  · have : (x.1 == k) = false := by simp only [beq_eq_false_iff_ne]; exact h
    simp [this, h]
theorem getI_putI (k : Int) (v : β) (m : List (Int × β)) (j : Int) : getI (putI k v m) j = if k = j then some v else getI m j := by
  induction m with
  | nil => rw [putI, getI_cons, getI_nil]
  | cons y m ih =>
    rw [putI]
    by_cases h : y.1 = k
    · rw [if_pos h, getI_cons, getI_cons]
      by_cases hx : k = j
      · simp [hx]
      · rw [if_neg hx, if_neg hx, if_neg (by rw [h]; exact hx)]
    · rw [if_neg h, getI_cons, getI_cons, ih]
      by_cases hx : k = j
      · subst hx; simp [h]
      · simp [hx]
theorem keys_putI (k : Int) (v : β) (m : List (Int × β)) : (putI k v m).map (·.1) = if k ∈ m.map (·.1) then m.map (·.1) else m.map (·.1) ++ [k] := by
  induction m with
  | nil => rfl
  | cons y m ih =>
    rw [putI]
    by_cases h : y.1 = k
    · subst h; rw [if_pos rfl, if_pos (by simp)]; simp
    · rw [if_neg h]
      simp only [List.map_cons, List.mem_cons]
      rw [ih]
      have h' : ¬ k = y.1 := fun e => h e.symm
      by_cases hm : k ∈ m.map (·.1)
      · rw [if_pos hm, if_pos (.inr hm)]
      · rw [if_neg hm, if_neg (by rintro (h1 | h1); exact h' h1; exact hm h1)]; rfl
theorem getI_mem {m : List (Int × β)} {k : Int} {v : β} (h : getI m k = some v) : (k, v) ∈ m := by
  induction m with
  | nil => cases h
  | cons y m ih =>
    rw [getI_cons] at h
    split at h
    · rename_i e; cases h; subst e; simp
    · exact List.mem_cons_of_mem _ (ih h)
theorem getI_isSome (m : List (Int × β)) (k : Int) : (getI m k).isSome = true ↔ k ∈ m.map (·.1) := by
  induction m with
  | nil => simp [getI_nil]
  | cons y m ih =>
    rw [getI_cons]
    by_cases h : y.1 = k
    · simp [h]
    · rw [if_neg h, ih]
      simp only [List.map_cons, List.mem_cons]
      exact ⟨.inr, fun h' => h'.elim (fun e => (h e.symm).elim) id⟩
theorem eqK_int (a b : Int) : eqK (.int .i64 a) (.int .i64 b) = decide (a = b) := by
  simp only [eqK, eqC]
  rw [Bool.eq_iff_iff]; simp
theorem mapFind_mi (f : β → AVal) (k : Int) : ∀ (m : List (Int × β)) (i : Nat), match mapFind (.int .i64 k) (mi f m) i with
    | none => getI m k = none
    | some x => ∃ v, getI m k = some v ∧ x.2 = f v := by
  intro m
  induction m with
  | nil => intro i; rfl
  | cons x m ih =>
    intro i
    simp only [mi, List.map_cons, mapFind, eqK_int]
    by_cases h : k = x.1
    · simp only [h, decide_true]
      exact ⟨x.2, by rw [getI_cons]; simp, rfl⟩
    · simp only [decide_eq_false h]
      have := ih (i + 1)
      rw [getI_cons, if_neg (fun e => h e.symm)]
      simp only [mi] at this
      exact this
theorem mapVal_mi (f : β → AVal) (k : Int) (z : AVal) (m : List (Int × β)) : mapVal (.int .i64 k) z (mi f m) = match getI m k with | some v => f v | none => z := by
  have := mapFind_mi f k m 0
  unfold mapVal
  cases hm : mapFind (.int .i64 k) (mi f m) 0 with
  | none => rw [hm] at this; rw [this]
  | some x => rw [hm] at this; obtain ⟨e, h1, h2⟩ := this; rw [h1]; exact h2
theorem mapFindS_mi (f : β → AVal) (k : Int) (m : List (Int × β)) : (mapFind (.int .i64 k) (mi f m) 0).isSome = (getI m k).isSome := by
  have := mapFind_mi f k m 0
  cases hm : mapFind (.int .i64 k) (mi f m) 0 with
  | none => rw [hm] at this; rw [this]; rfl
  | some x => rw [hm] at this; obtain ⟨e, h1, h2⟩ := this; rw [h1]; rfl
theorem mapPut_go (f : β → AVal) (k : Int) (v : β) : ∀ (m : List (Int × β)) (i : Nat), (match mapFind (.int .i64 k) (mi f m) i with | some x => (mi f m).set (x.1 - i) (.int .i64 k, f v) | none => mi f m ++ [(.int .i64 k, f v)]) = mi f (putI k v m)
  | [], i => rfl
  | x :: m, i => by
    simp only [mi, List.map_cons, mapFind, eqK_int, putI]
    by_cases h : k = x.1
    · simp [h]
    · simp only [decide_eq_false h]
      rw [if_neg (fun e => h e.symm)]
      have ih := mapPut_go f k v m (i + 1)
      have hs := mapFind_spec (.int .i64 k) (mi f m) (i + 1)
      simp only [mi, List.map_cons] at ih hs ⊢
      cases hm : mapFind (.int .i64 k) (m.map fun x => (AVal.int .i64 x.1, f x.2)) (i + 1) with
      | none => rw [hm] at ih; simp only [List.cons_append]; rw [← ih]
      | some y =>
        rw [hm] at ih hs
        obtain ⟨j, z, h1, h2, _⟩ := hs
        simp only [] at ih ⊢
        rw [← ih, show y.1 - i = (y.1 - (i + 1)) + 1 by omega]
        rfl
theorem mapPut_mi (f : β → AVal) (k : Int) (v : β) (m : List (Int × β)) : mapPut (.int .i64 k) (f v) (mi f m) = mi f (putI k v m) := mapPut_go f k v m 0
theorem mapDel_go (f : β → AVal) (k : Int) : ∀ (m : List (Int × β)) (i : Nat), (match mapFind (.int .i64 k) (mi f m) i with | some x => (mi f m).eraseIdx (x.1 - i) | none => mi f m) = mi f (delI k m)
  | [], i => rfl
  | x :: m, i => by
    simp only [mi, List.map_cons, mapFind, eqK_int, delI]
    by_cases h : k = x.1
    · simp [h]
    · simp only [decide_eq_false h]
      rw [if_neg (fun e => h e.symm)]
      have ih := mapDel_go f k m (i + 1)
      have hs := mapFind_spec (.int .i64 k) (mi f m) (i + 1)
      simp only [mi, List.map_cons] at ih hs ⊢
      cases hm : mapFind (.int .i64 k) (m.map fun x => (AVal.int .i64 x.1, f x.2)) (i + 1) with
      | none => rw [hm] at ih; simp only []; rw [← ih]
      | some y =>
        rw [hm] at ih hs
        obtain ⟨j, z, h1, h2, _⟩ := hs
        simp only [] at ih ⊢
        rw [← ih, show y.1 - i = (y.1 - (i + 1)) + 1 by omega]
        rfl
theorem mapDel_mi (f : β → AVal) (k : Int) (m : List (Int × β)) : mapDel (.int .i64 k) (mi f m) = mi f (delI k m) := mapDel_go f k m 0
theorem keysOk_mi {P : Program} {T : TypeId} (hT : leafOf P T = some (.int .i64)) (f : β → AVal) (m : List (Int × β)) : keysOk P T (mi f m) = true := by
  simp only [keysOk, mi, List.all_map, List.all_eq_true]
  intro x _
  simp only [Function.comp, kOk, hT, Leaf.fits]
  rfl
end
/-- Truth values. -/
def mb (m : List (Int × Bool)) : List (AVal × AVal) := mi AVal.bool m
theorem push_set (σ : Sto) (x y : AObj) : (σ.push x).set σ.nobj y = σ.push y := by
  simp only [Sto.push, Sto.set, Sto.mk.injEq, true_and, and_true]
  funext n; by_cases h : n = σ.nobj <;> simp [h]
theorem push_set0 (x y : AObj) : (Sto.push Sto.empty x).set 0 y = Sto.push Sto.empty y := push_set Sto.empty x y
end Go.AL
end

section
namespace Go.AL
set_option linter.unusedSimpArgs false
set_option linter.unusedVariables false

theorem setRange_length {cs xs : List AVal} {off : Nat} (h : off + xs.length ≤ cs.length) : (setRange cs off xs).length = cs.length := by
  simp [setRange]; omega
theorem setRange_get {cs xs : List AVal} {off : Nat} (h : off + xs.length ≤ cs.length) (k : Nat) : (setRange cs off xs)[k]? = if k < off then cs[k]? else if k < off + xs.length then xs[k - off]? else cs[k]? := by
  unfold setRange
  have hl : (cs.take off).length = off := by simp; omega
  by_cases h1 : k < off
  · rw [if_pos h1, List.append_assoc, List.getElem?_append_left (by omega), List.getElem?_take, if_pos h1]
  · rw [if_neg h1, List.append_assoc, List.getElem?_append_right (by omega), hl]
    by_cases h2 : k < off + xs.length
    · rw [if_pos h2, List.getElem?_append_left (by omega)]
    · rw [if_neg h2, List.getElem?_append_right (by omega), List.getElem?_drop]
      congr 1; omega
theorem pre_of {C P : List AVal} (h : ∀ k, k < P.length → C[k]? = P[k]?) : ∃ tl, C = P ++ tl := by
  refine ⟨C.drop P.length, ?_⟩
  apply List.ext_getElem?
  intro k
  by_cases hk : k < P.length
  · rw [h k hk, List.getElem?_append_left hk]
  · rw [List.getElem?_append_right (by omega), List.getElem?_drop]
    congr 1; omega
theorem noLocL_take (n : Nat) : ∀ {xs : List AVal}, noLocL xs = true → noLocL (xs.take n) = true := by
  induction n with
  | zero => intros; rfl
  | succ n ih =>
    intro xs h
    cases xs with
    | nil => rfl
    | cons a xs =>
      simp only [noLocL, Bool.and_eq_true, List.take_succ_cons] at h ⊢
      exact ⟨h.1, ih h.2⟩
theorem noLocL_drop (n : Nat) : ∀ {xs : List AVal}, noLocL xs = true → noLocL (xs.drop n) = true := by
  induction n with
  | zero => intro xs h; exact h
  | succ n ih =>
    intro xs h
    cases xs with
    | nil => rfl
    | cons a xs =>
      simp only [noLocL, Bool.and_eq_true, List.drop_succ_cons] at h ⊢
      exact ih h.2
theorem noLocL_undefs (n : Nat) : noLocL (List.replicate n AVal.undef) = true := by
  induction n with
  | zero => rfl
  | succ n ih => simp only [List.replicate_succ, noLocL, ih]; rfl
theorem one_set (x y : AObj) : (Sto.one x).set 0 y = Sto.one y := by
  simp only [Sto.one, Sto.set, Sto.mk.injEq, true_and, and_true]
  funext n; by_cases h : n = 0 <;> simp [h]

theorem noLocL_rep {z : AVal} (h : z.noLoc = true) (n : Nat) : noLocL (List.replicate n z) = true := by
  induction n with
  | zero => rfl
  | succ n ih => simp only [List.replicate_succ, noLocL, ih, h, Bool.and_self]
theorem flat_rep {z : AVal} (h : z.cells = [z]) (n : Nat) : flat (List.replicate n z) = List.replicate n z := by
  induction n with
  | zero => rfl
  | succ n ih =>
    simp only [List.replicate_succ, flat, List.flatMap_cons, h] at ih ⊢
    rw [ih]; rfl
def insL {α : Type} (l : List α) (i : Nat) (x : α) : List α := l.take i ++ x :: l.drop i
def delL {α : Type} (l : List α) (i : Nat) : List α := l.take i ++ l.drop (i + 1)
/-- E, with x laid in at i. -/
def insC (E : List AVal) (i : Nat) (x : AVal) : List AVal := E.take i ++ x :: E.drop i
theorem insC_map {β : Type} (f : β → AVal) (l : List β) (i : Nat) (x : β) : insC (l.map f) i (f x) = (insL l i x).map f := by simp [insC, insL]
theorem insC_length {E : List AVal} {i : Nat} (x : AVal) (h : i ≤ E.length) : (insC E i x).length = E.length + 1 := by simp [insC]; omega
theorem insC_get {E : List AVal} {i : Nat} (x : AVal) (h : i ≤ E.length) (k : Nat) : (insC E i x)[k]? = if k < i then E[k]? else if k = i then some x else E[k - 1]? := by
  unfold insC
  have hl : (E.take i).length = i := by simp; omega
  by_cases h1 : k < i
  · rw [if_pos h1, List.getElem?_append_left (by omega), List.getElem?_take, if_pos h1]
  · rw [if_neg h1, List.getElem?_append_right (by omega), hl]
    by_cases h2 : k = i
    · subst h2; simp
    · rw [if_neg h2]
      obtain ⟨d, hd⟩ : ∃ d, k - i = d + 1 := ⟨k - i - 1, by omega⟩
      rw [hd, List.getElem?_cons_succ, List.getElem?_drop]
      congr 1; omega
/-- In place: what stands from i on moves up by one, x comes there. -/
theorem ins_shift {E J : List AVal} {i : Nat} (x : AVal) (hi : i ≤ E.length) (hJ : 1 ≤ J.length) :
    ∃ tl, setRange (setRange (E ++ J) (i + 1) (((E ++ J).drop i).take (E.length - i))) i [x] = insC E i x ++ tl := by
  have hl1 : (((E ++ J).drop i).take (E.length - i)).length = E.length - i := by simp; omega
  have h1 : i + 1 + (((E ++ J).drop i).take (E.length - i)).length ≤ (E ++ J).length := by rw [hl1]; simp; omega
  refine pre_of fun k hk => ?_
  rw [insC_length x hi] at hk
  rw [setRange_get (by rw [setRange_length h1]; simp; omega), insC_get x hi, setRange_get h1, hl1]
  by_cases k1 : k < i
  · rw [if_pos k1, if_pos k1, if_pos (by omega), List.getElem?_append_left (by omega)]
  · rw [if_neg k1, if_neg k1]
    by_cases k2 : k = i
    · subst k2; rw [if_pos (by simp), if_pos rfl]; simp
    · rw [if_neg (by simp; omega), if_neg k2, if_neg (by omega), if_pos (by omega), List.getElem?_take, if_pos (by omega), List.getElem?_drop, List.getElem?_append_left (by omega)]
      congr 1; omega
theorem ins_end {E J : List AVal} (x : AVal) (hJ : 1 ≤ J.length) : ∃ tl, setRange (E ++ J) E.length [x] = insC E E.length x ++ tl := by
  refine pre_of fun k hk => ?_
  rw [insC_length x (Nat.le_refl _)] at hk
  rw [setRange_get (by simp; omega), insC_get x (Nat.le_refl _)]
  by_cases k1 : k < E.length
  · rw [if_pos k1, if_pos k1, List.getElem?_append_left k1]
  · rw [if_neg k1, if_neg k1, if_pos (by simp; omega), if_pos (by omega)]
    have : k - E.length = 0 := by omega
    rw [this]; rfl
theorem ins_endG {E J U : List AVal} (x : AVal) : ∃ tl, (E ++ J).take E.length ++ [x] ++ U = insC E E.length x ++ tl := ⟨U, by simp [insC]⟩
theorem ins_mid {E J U : List AVal} {i : Nat} (x z : AVal) (hi : i ≤ E.length) :
    ∃ tl, setRange (setRange ((E ++ J).take i ++ List.replicate (E.length + 1 - i) z ++ U) i [x]) (i + 1) (((E ++ J).drop i).take (E.length - i)) = insC E i x ++ tl := by
  have hl1 : (((E ++ J).drop i).take (E.length - i)).length = E.length - i := by simp; omega
  have hl0 : ((E ++ J).take i ++ List.replicate (E.length + 1 - i) z ++ U).length = E.length + 1 + U.length := by simp; omega
  have h1 : i + [x].length ≤ ((E ++ J).take i ++ List.replicate (E.length + 1 - i) z ++ U).length := by rw [hl0]; simp; omega
  have h2 : i + 1 + (((E ++ J).drop i).take (E.length - i)).length ≤ (setRange ((E ++ J).take i ++ List.replicate (E.length + 1 - i) z ++ U) i [x]).length := by rw [setRange_length h1, hl0, hl1]; omega
  refine pre_of fun k hk => ?_
  rw [insC_length x hi] at hk
  rw [setRange_get h2, insC_get x hi, setRange_get h1, hl1]
  by_cases k1 : k < i
  · rw [if_pos (by omega), if_pos k1, if_pos k1, List.append_assoc, List.getElem?_append_left (by simp; omega), List.getElem?_take, if_pos k1, List.getElem?_append_left (by omega)]
  · by_cases k2 : k = i
    · subst k2
      rw [if_pos (by omega), if_neg k1, if_pos (by simp), if_neg k1, if_pos rfl]; simp
    · rw [if_neg (by omega), if_pos (by omega), if_neg k1, if_neg k2, List.getElem?_take, if_pos (by omega), List.getElem?_drop, List.getElem?_append_left (by omega)]
      congr 1; omega
/-- E, without the one at i. -/
def delC (E : List AVal) (i : Nat) : List AVal := E.take i ++ E.drop (i + 1)
theorem delC_map {β : Type} (f : β → AVal) (l : List β) (i : Nat) : delC (l.map f) i = (delL l i).map f := by simp [delC, delL]
theorem del_cells {E J Z : List AVal} {i : Nat} (hi : i < E.length) (hZ : Z.length = 1) :
    ∃ tl, setRange (setRange (E ++ J) i (((E ++ J).drop (i + 1)).take (E.length - (i + 1)))) (i + (E.length - (i + 1))) Z = delC E i ++ tl := by
  have hl1 : (((E ++ J).drop (i + 1)).take (E.length - (i + 1))).length = E.length - (i + 1) := by simp; omega
  have h1 : i + (((E ++ J).drop (i + 1)).take (E.length - (i + 1))).length ≤ (E ++ J).length := by rw [hl1]; simp; omega
  have h2 : i + (E.length - (i + 1)) + Z.length ≤ (setRange (E ++ J) i (((E ++ J).drop (i + 1)).take (E.length - (i + 1)))).length := by rw [setRange_length h1, hZ]; simp; omega
  have hd : (delC E i).length = E.length - 1 := by simp [delC]; omega
  refine pre_of fun k hk => ?_
  rw [hd] at hk
  rw [setRange_get h2, if_pos (by omega), setRange_get h1, hl1]
  unfold delC
  by_cases k1 : k < i
  · rw [if_pos k1, List.getElem?_append_left (by omega), List.getElem?_append_left (by simp; omega), List.getElem?_take, if_pos k1]
  · rw [if_neg k1, if_pos (by omega), List.getElem?_append_right (by simp; omega), List.getElem?_take, if_pos (by omega), List.getElem?_drop, List.getElem?_append_left (by omega), List.getElem?_drop]
    have : (E.take i).length = i := by simp; omega
    rw [this]
end Go.AL
end

section
namespace Go.AL
set_option linter.unusedSimpArgs false
set_option linter.unusedVariables false

theorem Ext.below {l : Bool} {γ : Gh} {w w' : World} (hlt : ∀ b o, γ.imm b o → b < w.heap.size) (hb : Go.RowKit.Below w.heap.size w w') : Ext l γ w γ w' :=
  ⟨fun b o hi => ⟨hi, cell?_heap (hb.block b (hlt b o hi))⟩, fun _ _ _ h => h, fun p => OwnStep.refl _⟩
theorem Inv.below {γ : Gh} {w w' : World} {O : Oid → Option AObj} {W : Nat → Option Nat} {no nw : Nat} (h : Inv γ w O W no nw) (hb : Go.RowKit.Below w.heap.size w w') : Inv γ w' O W no nw := by
  have e : ∀ l, Ext l γ w γ w' := fun l => Ext.below (fun b o hi => h.imm_lt hi) hb
  refine ⟨fun b o hi => ?_, fun i x hx => ?_, h.inj, fun p n hp => ?_, h.ownInj, h.apart, h.freshO, h.freshW⟩
  · obtain ⟨v, hv⟩ := h.imm b o hi
    exact ⟨v, ((e true).imm b o hi).2.trans hv⟩
  · rcases h.obj i x hx with h1 | ⟨b, hbk, hok⟩
    · exact .inl h1
    · exact .inr ⟨b, hbk, hok.mono (e _) (hb.block b hok.lt) hok.notImm⟩
  · have hok := h.own p n hp
    exact hok.mono (fun b hbk => hb.block b (hok.lt hbk)) (fun b o hbk hi => hi)
theorem Evo.below {γ : Gh} {w w' : World} {O : Oid → Option AObj} {W : Nat → Option Nat} (hlt : ∀ b o, γ.imm b o → b < w.heap.size) (hb : Go.RowKit.Below w.heap.size w w') : Evo γ w O W γ w' O W :=
  ⟨hb.os, hb.tape, hb.output, hb.size, fun b h _ => hb.block b h, Ext.below hlt hb, fun _ _ h => .inl h, fun _ h => .inl h⟩
/-- A contract of the library's: it yields a value, and what was there is as it was. -/
theorem PCall.ofBelow {P : Program} {g : FuncId} {xs : List AVal} {v : AVal}
    (h : ∀ γ w vs, RepL γ w false xs vs → Calls P g vs.toArray w fun e w' => ∃ u, e = .returned u ∧ Rep γ w' false v u ∧ Go.RowKit.Below w.heap.size w w') : PCall P g xs v :=
  fun σ γ w vs hi hr => (h γ w vs hr).mono fun e w' ⟨u, h1, h2, h3⟩ =>
    ⟨u, v, γ, σ, h1, h2, hi.below h3, Evo.below (fun b o hm => hi.imm_lt hm) h3, rfl, rfl⟩
theorem PCall.ofSame {P : Program} {g : FuncId} {xs : List AVal} {v : AVal}
    (h : ∀ γ w vs, RepL γ w false xs vs → Calls P g vs.toArray w fun e w' => ∃ u, e = .returned u ∧ Rep γ w false v u ∧ w' = w) : PCall P g xs v :=
  .ofBelow fun γ w vs hr => (h γ w vs hr).mono fun e w' ⟨u, h1, h2, h3⟩ => by subst h3; exact ⟨u, h1, h2, Go.RowKit.Below.refl _ _⟩
theorem repStr {γ : Gh} {w : World} {l : Bool} {s : List UInt8} {u : Value} (h : Rep γ w l (.str s) u) : u = .string ⟨s.toArray⟩ := by cases h; rfl
theorem repL1 {γ : Gh} {w : World} {l : Bool} {a : AVal} {vs : List Value} (h : RepL γ w l [a] vs) : ∃ u, vs = [u] ∧ Rep γ w l a u := by
  cases h with
  | cons h1 h2 => cases h2; exact ⟨_, rfl, h1⟩
theorem repL2 {γ : Gh} {w : World} {l : Bool} {a b : AVal} {vs : List Value} (h : RepL γ w l [a, b] vs) : ∃ u v, vs = [u, v] ∧ Rep γ w l a u ∧ Rep γ w l b v := by
  cases h with
  | cons h1 h2 => obtain ⟨v, rfl, h3⟩ := repL1 h2; exact ⟨_, _, rfl, h1, h3⟩
/-- A slice without room that is handed back is said to bear a permission. -/
theorem ACall.growRes {P : Program} {f : FuncId} {args : List AVal} {σ : Sto} {Q : AVal → Sto → Prop} {n : Nat}
    (h : ACall P f args σ fun r τ => (∃ s, r = .slice [] s .nil ∧ Q (.slice [] n (.own τ.nown)) (τ.pushOwn 0)) ∨ (∃ es s, r = .slice es s .full ∧ Q (.slice es s (.own τ.nown)) (τ.pushOwn es.length)) ∨ Q r τ) : ACall P f args σ Q := by
  intro γ w0 vs hi hr
  refine (h γ w0 vs hi hr).mono fun e w' ⟨v, r, γ', τ, he, hrep, hinv, hev, hq⟩ => ?_
  have hO : ∀ τ : Sto, St.objAt { n := 0, fr := [], tm := [], loc := [], σ := τ } = τ.O := fun τ => by funext i; cases i <;> rfl
  have hC : Conc γ' w' { tmps := #[], defers := [] } { n := 0, fr := [], tm := [], loc := [], σ := τ } := ⟨rfl, fun t => .undef _ _, rfl, by rw [hO]; exact hinv⟩
  have fin : ∀ m : Nat, Inv { γ' with own := fun q => if q = τ.nown then .full m else γ'.own q } w' (τ.pushOwn m).O (τ.pushOwn m).own (τ.pushOwn m).nobj (τ.pushOwn m).nown ∧
      Evo γ w0 σ.O σ.own { γ' with own := fun q => if q = τ.nown then .full m else γ'.own q } w' (τ.pushOwn m).O (τ.pushOwn m).own := fun m => by
    obtain ⟨c1, c2, c3⟩ := hC.ownFull m
    refine ⟨?_, ?_⟩
    · have := c1.inv
      rw [hO (τ.pushOwn m)] at this
      exact this
    · have e1 := c2
      unfold EvoS at e1
      rw [hO τ, hO (τ.pushOwn m)] at e1
      exact hev.trans e1
  rcases hq with ⟨s, rfl, hq⟩ | ⟨es, s, rfl, hq⟩ | hq
  · refine ⟨v, _, _, _, he, ?_, (fin 0).1, (fin 0).2, hq⟩
    generalize hes : ([] : List AVal) = es at hrep
    cases hrep with
    | sliceRow _ _ _ _ _ _ ht => exact ht.elim
    | sliceNil ht ho => exact .sliceNil (by simp [AL.tagNil, Own.isNil]) (.inr rfl)
  · refine ⟨v, _, _, _, he, ?_, (fin es.length).1, (fin es.length).2, hq⟩
    obtain ⟨c1, c2, c3⟩ := hC.ownFull es.length
    cases hrep with
    | @sliceRow _ _ _ _ b off cap vs h1 h2 h3 h4 h5 h6 h7 =>
      refine .sliceRow (RepL.mono c3.weak h1) h2 (c3.cellsAt h3) h4 h5 h6 ?_
      have : AL.tagRow { γ' with own := fun q => if q = τ.nown then .full es.length else γ'.own q } (.own τ.nown) es.length b off cap s := by
        simp only [AL.tagRow, if_true, Own.isRow]
        exact ⟨Nat.le_refl _, fun _ => h7⟩
      exact this
    | sliceNil ht ho => exact .sliceNil (by simp [AL.tagNil, Own.isNil]) (.inr rfl)
  · exact ⟨v, r, γ', τ, he, hrep, hinv, hev, hq⟩
end Go.AL
end
