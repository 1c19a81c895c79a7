/-
  Seat 12 (limbo): laws over what comes in.
-/
import Derived.Test.YtakidnohmfebmaaLw
namespace Go.Proofs.Ytakidnohmfebmaa
open Go.AL
set_option linter.unusedSimpArgs false
set_option linter.unusedVariables false

abbrev tyKey : Ty := .agg [.int .i64, .int .i64, .int .i64, .str]
theorem fits_key {a : AVal} (h : Fits tyKey a) : ∃ k : Key, a = keyV k := by
  simp only [tyKey, Fits, FitsL] at h
  obtain ⟨cs, rfl, a1, r1, rfl, ⟨n1, rfl, _⟩, a2, r2, rfl, ⟨n2, rfl, _⟩, a3, r3, rfl, ⟨n3, rfl, _⟩, a4, r4, rfl, ⟨s, rfl, _⟩, rfl⟩ := h
  exact ⟨(n1, n2, n3, s), rfl⟩
theorem fits_keys {b : Nat} {a : AVal} (h : Fits (.slice tyKey 4 b) a) : ∃ ks : List Key, a = .slice (kv ks) 4 .ro ∧ ks.length * b ≤ 140737488351232 := by
  obtain ⟨es, rfl, h1, h2⟩ := h
  obtain ⟨ks, rfl, _⟩ := map_of (f := keyV) (P := fun _ => True) fun e he => by
    obtain ⟨k, rfl⟩ := fits_key (h2 e he)
    exact ⟨k, rfl, trivial⟩
  exact ⟨ks, rfl, by simpa using h1⟩
theorem fits_act {a : AVal} (h : Fits (.agg [.int .i64, .int .i64, .slice tyKey 4 40]) a) : ∃ x : Act, a = actV x := by
  obtain ⟨cs, rfl, h⟩ := h
  simp only [FitsL] at h
  obtain ⟨a1, r1, rfl, ⟨n1, rfl, _⟩, a2, r2, rfl, ⟨n2, rfl, _⟩, a3, r3, rfl, h3, rfl⟩ := h
  obtain ⟨ks, rfl, _⟩ := fits_keys h3
  exact ⟨(n1, n2, ks), rfl⟩
theorem fits_acts {b : Nat} {a : AVal} (h : Fits (.slice (.agg [.int .i64, .int .i64, .slice tyKey 4 40]) 3 b) a) : ∃ ks : List Act, a = .slice (av ks) 3 .ro := by
  obtain ⟨es, rfl, h1, h2⟩ := h
  obtain ⟨ks, rfl, _⟩ := map_of (f := actV) (P := fun _ => True) fun e he => by
    obtain ⟨k, rfl⟩ := fits_act (h2 e he)
    exact ⟨k, rfl, trivial⟩
  exact ⟨ks, rfl⟩

theorem waits_law (xs : List AVal) (h : FitsL [.agg [.int .i64, .int .i64, .int .i64, .str], .int .i64, .slice (.agg [.int .i64, .int .i64, .slice (.agg [.int .i64, .int .i64, .int .i64, .str]) 4 40]) 3 40] xs) : ACall Try.prog 4 xs Sto.empty fun r _ => r = .bool true := by
  unfold FitsL at h
  obtain ⟨a1, r1, rfl, h1, h⟩ := h
  unfold FitsL at h
  obtain ⟨a2, r2, rfl, h2, h⟩ := h
  unfold FitsL at h
  obtain ⟨a3, r3, rfl, h3, h⟩ := h
  simp only [FitsL] at h
  subst h
  obtain ⟨k, rfl⟩ := fits_key h1
  obtain ⟨e, rfl, _⟩ := h2
  obtain ⟨acts, rfl⟩ := fits_acts h3
  exact waits_l k e acts
end Go.Proofs.Ytakidnohmfebmaa
