/-
  Typed values: bytes, numbers, texts as elements of slices; contracts over the empty store.
-/
import Derived.Test.YtakidnohmfebmaaG
namespace Go.AL
set_option linter.unusedSimpArgs false
set_option linter.unusedVariables false

theorem dt {p : Prop} [Decidable p] (h : p) : decide p = true := decide_eq_true h

/-! ### Lists of one kind -/
theorem elemAt_map {β : Type} (f : β → AVal) (xs : List β) (i : Nat) (h : i < xs.length) : elemAt (xs.map f) (i : Int) = (f xs[i]).cells := by
  rw [elemAt_get (by simpa using h)]
  simp
theorem noOutL_map {β : Type} {f : β → AVal} (n : Nat) (h : ∀ x, (f x).noOut n = true) : ∀ xs : List β, noOutL n (xs.map f) = true
  | [] => rfl
  | x :: xs => by simp only [List.map_cons, noOutL, h x, noOutL_map n h xs, Bool.and_self]
theorem noTokL_map {β : Type} {f : β → AVal} (n : Nat) (h : ∀ x, (f x).noTok n = true) : ∀ xs : List β, noTokL n (xs.map f) = true
  | [] => rfl
  | x :: xs => by simp only [List.map_cons, noTokL, h x, noTokL_map n h xs, Bool.and_self]
theorem noLocL_map {β : Type} {f : β → AVal} (h : ∀ x, (f x).noLoc = true) : ∀ xs : List β, noLocL (xs.map f) = true
  | [] => rfl
  | x :: xs => by simp only [List.map_cons, noLocL, h x, noLocL_map h xs, Bool.and_self]
theorem flat_map {β : Type} {f : β → AVal} (h : ∀ x, (f x).cells = [f x]) : ∀ xs : List β, flat (xs.map f) = xs.map f
  | [] => rfl
  | x :: xs => by
    have := flat_map h xs
    simp only [flat, List.map_cons, List.flatMap_cons, h x] at this ⊢
    rw [this]; rfl
theorem take_drop_all {α : Type} (l : List α) (n : Nat) : List.take (l.length - n) (l.drop n) = l.drop n := List.take_of_length_le (by simp)
theorem i64_succ {i n : Nat} (h : i < n) (hn : n ≤ 140737488351232) : IntKind.i64.wrap ((i : Int) + 1) = ((i + 1 : Nat) : Int) := by rw [wrap_i64 (by omega) (by omega)]; rfl

/-! ### It has the width, or no elements -/
def okW (n s : Nat) (es : List AVal) : Bool := s == n || es.isEmpty
theorem okW_same (n : Nat) (es : List AVal) : okW n n es = true := by simp [okW]
theorem okW_nil (n s : Nat) : okW n s [] = true := by simp [okW]
theorem wkW {n s : Nat} {es : List AVal} (t : Tag) (h : okW n s es = true) : Wk (.slice es s t) (.slice es n .ro) := by
  simp only [okW, Bool.or_eq_true, beq_iff_eq] at h
  rcases h with rfl | h
  · exact Wk.ro es s t
  · have : es = [] := List.isEmpty_iff.1 h
    subst this
    exact Wk.nil s n t
theorem wkW_map {n s : Nat} {es : List AVal} {g : AVal → AVal} (t : Tag) (h : okW n s es = true) (hg : ∀ e ∈ es, WkL e.cells (g e).cells ∧ (g e).cells.length = e.cells.length) : Wk (.slice es s t) (.slice (es.map g) n .ro) := by
  simp only [okW, Bool.or_eq_true, beq_iff_eq] at h
  rcases h with rfl | h
  · exact Wk.elems hg
  · have : es = [] := List.isEmpty_iff.1 h
    subst this
    exact Wk.nil s n t

/-! ### Bytes -/
def bw (l : List UInt8) : List AVal := l.map ofByte
def byteIs : AVal → Bool
  | .int .u8 n => decide (0 ≤ n) && decide (n < 256)
  | _ => false
theorem u8_lt (b : UInt8) : b.toNat < 256 := b.toNat_lt
theorem bw_nil : bw [] = [] := rfl
theorem bw_cons (b : UInt8) (l : List UInt8) : bw (b :: l) = .int .u8 (b.toNat : Int) :: bw l := rfl
@[simp] theorem bw_length (l : List UInt8) : (bw l).length = l.length := by simp [bw]
theorem bw_append (a b : List UInt8) : bw (a ++ b) = bw a ++ bw b := by simp [bw]
theorem bw_take (a : List UInt8) (n : Nat) : bw (a.take n) = (bw a).take n := by simp [bw, List.map_take]
theorem bw_drop (a : List UInt8) (n : Nat) : bw (a.drop n) = (bw a).drop n := by simp [bw, List.map_drop]
theorem byteOf_ofByte (b : UInt8) : byteOf (ofByte b) = b := by simp [byteOf, ofByte]
@[simp] theorem map_byteOf_bw (l : List UInt8) : (bw l).map AL.byteOf = l := by
  simp only [bw, List.map_map]
  conv => rhs; rw [← List.map_id l]
  exact List.map_congr_left fun b _ => byteOf_ofByte b
@[simp] theorem bw_isU8 (l : List UInt8) : (bw l).all isU8 = true := by simp [bw, isU8, ofByte]
@[simp] theorem bw_byteIs (l : List UInt8) : (bw l).all byteIs = true := by
  simp only [bw, List.all_map, List.all_eq_true]
  intro b _
  have := u8_lt b
  simp [byteIs, ofByte]; omega
theorem elemAt_bw (l : List UInt8) (i : Nat) (h : i < l.length) : elemAt (bw l) (i : Int) = [.int .u8 (l[i].toNat : Int)] := elemAt_map ofByte l i h
theorem bw_noOut (n : Nat) (l : List UInt8) : noOutL n (bw l) = true := noOutL_map n (fun _ => rfl) l
theorem bw_noTok (n : Nat) (l : List UInt8) : noTokL n (bw l) = true := noTokL_map n (fun _ => rfl) l
theorem bw_noLoc (l : List UInt8) : noLocL (bw l) = true := noLocL_map (fun _ => rfl) l
theorem bw_of {es : List AVal} (h : es.all byteIs = true) : es = bw (es.map AL.byteOf) := by
  induction es with
  | nil => rfl
  | cons e es ih =>
    simp only [List.all_cons, Bool.and_eq_true] at h
    have h1 := h.1
    unfold byteIs at h1
    split at h1
    · rename_i n
      simp only [Bool.and_eq_true, decide_eq_true_eq] at h1
      simp only [List.map_cons, bw_cons, byteOf]
      rw [← ih h.2]
      congr 1
      have : (UInt8.ofNat n.toNat).toNat = n.toNat := by simp; omega
      rw [this]
      congr 1
      omega
    · cases h1
theorem wk_bw {s : Nat} {es : List AVal} (t : Tag) (hn : okW 1 s es = true) (h : es.all byteIs = true) : Wk (.slice es s t) (.slice (bw (es.map AL.byteOf)) 1 .ro) := by
  rw [← bw_of h]
  exact wkW t hn

/-! ### Numbers, texts -/
def iv (l : List Int) : List AVal := l.map (AVal.int .i64)
@[simp] theorem iv_length (l : List Int) : (iv l).length = l.length := by simp [iv]
theorem iv_append (a b : List Int) : iv (a ++ b) = iv a ++ iv b := by simp [iv]
theorem iv_take (a : List Int) (n : Nat) : iv (a.take n) = (iv a).take n := by simp [iv, List.map_take]
theorem iv_drop (a : List Int) (n : Nat) : iv (a.drop n) = (iv a).drop n := by simp [iv, List.map_drop]
theorem elemAt_iv (l : List Int) (i : Nat) (h : i < l.length) : elemAt (iv l) (i : Int) = [.int .i64 l[i]] := elemAt_map (AVal.int .i64) l i h
theorem iv_noOut (n : Nat) (l : List Int) : noOutL n (iv l) = true := noOutL_map n (fun _ => rfl) l
theorem iv_noTok (n : Nat) (l : List Int) : noTokL n (iv l) = true := noTokL_map n (fun _ => rfl) l
def isI64 : AVal → Bool
  | .int .i64 _ => true
  | _ => false
@[simp] theorem iv_isI64 (l : List Int) : (iv l).all isI64 = true := by simp [iv, isI64]
@[simp] theorem map_intOf_iv (l : List Int) : (iv l).map AVal.intOf = l := by
  simp only [iv, List.map_map]
  conv => rhs; rw [← List.map_id l]
  exact List.map_congr_left fun b _ => rfl
theorem iv_of {es : List AVal} (h : es.all isI64 = true) : es = iv (es.map AVal.intOf) := by
  induction es with
  | nil => rfl
  | cons e es ih =>
    simp only [List.all_cons, Bool.and_eq_true] at h
    have h1 := h.1
    unfold isI64 at h1
    split at h1
    · have := ih h.2
      simp only [iv, List.map_cons] at this ⊢
      rw [← this]
      rfl
    · cases h1
theorem wk_iv {s : Nat} {es : List AVal} (t : Tag) (hn : okW 1 s es = true) (h : es.all isI64 = true) : Wk (.slice es s t) (.slice (iv (es.map AVal.intOf)) 1 .ro) := by
  rw [← iv_of h]
  exact wkW t hn
def strv (l : List (List UInt8)) : List AVal := l.map AVal.str
@[simp] theorem strv_length (l : List (List UInt8)) : (strv l).length = l.length := by simp [strv]
theorem elemAt_strv (l : List (List UInt8)) (i : Nat) (h : i < l.length) : elemAt (strv l) (i : Int) = [.str l[i]] := elemAt_map AVal.str l i h
def bwsV (l : List UInt8) : AVal := .slice (bw l) 1 .ro
def bws (ls : List (List UInt8)) : List AVal := ls.map bwsV
@[simp] theorem bws_length (l : List (List UInt8)) : (bws l).length = l.length := by simp [bws]
theorem elemAt_bws (l : List (List UInt8)) (i : Nat) (h : i < l.length) : elemAt (bws l) (i : Int) = [.slice (bw l[i]) 1 .ro] := elemAt_map bwsV l i h
theorem bws_noOut (n : Nat) (l : List (List UInt8)) : noOutL n (bws l) = true := noOutL_map n (fun x => by simp [bwsV, AVal.noOut, bw_noOut]) l
theorem bws_noTok (n : Nat) (l : List (List UInt8)) : noTokL n (bws l) = true := noTokL_map n (fun x => by simp [bwsV, AVal.noTok, bw_noTok, Tag.below]) l
theorem bws_noLoc (l : List (List UInt8)) : noLocL (bws l) = true := noLocL_map (fun _ => rfl) l
def bytesIs : AVal → Bool
  | .slice es s _ => okW 1 s es && es.all byteIs
  | _ => false
def bytesOfV (v : AVal) : List UInt8 := v.elems.map AL.byteOf
theorem bytesIs_of {v : AVal} (h : bytesIs v = true) : WkL v.cells (bwsV (bytesOfV v)).cells ∧ (bwsV (bytesOfV v)).cells.length = v.cells.length := by
  unfold bytesIs at h
  split at h
  · rename_i es s t
    simp only [Bool.and_eq_true] at h
    exact ⟨.cons (wk_bw t h.1 h.2) (.refl _), rfl⟩
  · cases h
@[simp] theorem map_bytesOfV (ls : List (List UInt8)) : (bws ls).map bytesOfV = ls := by
  simp only [bws, List.map_map]
  conv => rhs; rw [← List.map_id ls]
  exact List.map_congr_left fun b _ => by simp [bytesOfV, bwsV, AVal.elems]
@[simp] theorem bws_is (ls : List (List UInt8)) : (bws ls).all bytesIs = true := by
  simp only [bws, List.all_map, List.all_eq_true]
  intro l _
  simp [bytesIs, bwsV, okW_same]
theorem wk_bws {s : Nat} {es : List AVal} (t : Tag) (hn : okW 1 s es = true) (h : es.all bytesIs = true) : Wk (.slice es s t) (.slice (bws (es.map bytesOfV)) 1 .ro) := by
  rw [bws, List.map_map]
  exact wkW_map t hn fun e he => bytesIs_of (List.all_eq_true.1 h e he)

/-! ### What comes in -/
theorem fits_bw {b : Nat} {a : AVal} (h : Fits (.slice (.int .u8) 1 b) a) : ∃ l : List UInt8, a = bwsV l ∧ l.length * b ≤ 140737488351232 := by
  obtain ⟨es, rfl, h1, h2⟩ := h
  have : es.all byteIs = true := by
    rw [List.all_eq_true]
    intro x hx
    obtain ⟨n, rfl, h3, h4⟩ := h2 x hx
    have h3 : 0 ≤ n := h3
    have h4 : n ≤ 255 := h4
    simp [byteIs, h3]; omega
  refine ⟨es.map AL.byteOf, ?_, by simpa using h1⟩
  conv => lhs; rw [bw_of this]
  rfl
theorem fits_bws {b : Nat} {a : AVal} (h : Fits (.slice (.slice (.int .u8) 1 1) 1 b) a) : ∃ ls : List (List UInt8), a = .slice (bws ls) 1 .ro ∧ ls.length * b ≤ 140737488351232 ∧ ∀ l ∈ ls, l.length ≤ 140737488351232 := by
  obtain ⟨es, rfl, h1, h2⟩ := h
  obtain ⟨ls, rfl, hx⟩ := map_of (f := bwsV) (P := fun l => l.length ≤ 140737488351232) fun e he => by
    obtain ⟨l, h3, h4⟩ := fits_bw (h2 e he)
    exact ⟨l, h3, by omega⟩
  exact ⟨ls, rfl, by simpa using h1, hx⟩
theorem fits_iv {b : Nat} {a : AVal} (h : Fits (.slice (.int .i64) 1 b) a) : ∃ l : List Int, a = .slice (iv l) 1 .ro ∧ l.length * b ≤ 140737488351232 ∧ ∀ n ∈ l, -9223372036854775808 ≤ n ∧ n ≤ 9223372036854775807 := by
  obtain ⟨es, rfl, h1, h2⟩ := h
  obtain ⟨ls, rfl, hx⟩ := map_of (f := AVal.int .i64) (P := fun n => -9223372036854775808 ≤ n ∧ n ≤ 9223372036854775807) fun e he => by
    obtain ⟨n, h3, h4, h5⟩ := h2 e he
    exact ⟨n, h3, h4, h5⟩
  exact ⟨ls, rfl, by simpa using h1, hx⟩

/-! ### Contracts over the empty store -/
theorem pcall_of {P : Program} {f : FuncId} {args args' : List AVal} {v : AVal} (hw : WkL args args') (h : ACall P f args' Sto.empty fun r _ => Wk r v) (ho : noOutL 0 args' = true) (ht : noTokL 0 args' = true) (hv : v.noOut 0 = true) (hv2 : v.noTok 0 = true) : PCall P f args v := by
  intro σ
  refine ACall.args ?_ hw
  have hs := sealL_noTok args' ht
  exact ACall.ofEmpty (by rw [hs]; exact h) (by rw [hs]; exact ho) hv hv2 (fun r τ hq => hq) σ
/-! ### Stores -/
theorem set_set (σ : Sto) (o : Nat) (x y : AObj) : (σ.set o x).set o y = σ.set o y := by
  simp only [Sto.set, Sto.mk.injEq, true_and, and_true]
  funext n; split <;> rfl
theorem set_setOwn (σ : Sto) (o p n : Nat) (x : AObj) : (σ.setOwn p n).set o x = (σ.set o x).setOwn p n := rfl
theorem setOwn_setOwn (σ : Sto) (p n m : Nat) : (σ.setOwn p n).setOwn p m = σ.setOwn p m := by
  simp only [Sto.setOwn, Sto.mk.injEq, true_and]
  funext q; split <;> rfl
theorem set_same {σ : Sto} {o : Nat} {x : AObj} (h : σ.obj o = some x) : σ.set o x = σ := by
  cases σ with
  | mk a b c d =>
    simp only [Sto.set, Sto.mk.injEq, true_and, and_true]
    funext n
    split
    · rename_i e; subst e; exact h.symm
    · rfl
theorem setOwn_same {σ : Sto} {p n : Nat} (h : σ.own p = some n) : σ.setOwn p n = σ := by
  cases σ with
  | mk a b c d =>
    simp only [Sto.setOwn, Sto.mk.injEq, true_and]
    funext q
    split
    · rename_i e; subst e; exact h.symm
    · rfl

/-! ### Permissions that are given up -/
theorem ACall.dropOwn {P : Program} {f : FuncId} {args : List AVal} {σ : Sto} {Q : AVal → Sto → Prop}
    (h : ACall P f args σ fun r τ => ∃ ow : Nat → Option Nat, (∀ p k, ow p = some k → τ.own p = some k) ∧ Q r { τ with own := ow }) : ACall P f args σ Q := by
  intro γ w vs hi hr
  refine (h γ w vs hi hr).mono fun e w' ⟨v, r, γ', τ, he, hrep, hinv, hev, ow, h1, hq⟩ => ?_
  refine ⟨v, r, γ', { τ with own := ow }, he, hrep, ?_, ?_, hq⟩
  · exact ⟨hinv.imm, hinv.obj, hinv.inj, fun p n hp => hinv.own p n (h1 p n hp), fun p q n m b hp hq => hinv.ownInj p q n m b (h1 p n hp) (h1 q m hq), fun i x p n b hx hp => hinv.apart i x p n b hx (h1 p n hp), hinv.freshO, hinv.freshW, hinv.amb⟩
  · refine ⟨hev.os, hev.tape, hev.output, hev.size, hev.old, hev.ext, hev.new, fun b hb => hev.mutd b ?_⟩
    rcases hb with ⟨i, x, hx, hbi⟩ | ⟨p, k, hp, hbp⟩
    · exact .inl ⟨i, x, hx, hbi⟩
    · exact .inr ⟨p, k, h1 p k hp, hbp⟩
end Go.AL
