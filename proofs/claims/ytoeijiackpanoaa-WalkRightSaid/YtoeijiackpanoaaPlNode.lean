/- Plain: nodes of a tree, as numbers. -/
import Derived.Test.YtoeijiackpanoaaSeCom
set_option linter.unusedVariables false
namespace Go.AM.Seat
open Go Go.AM

theorem log2_eq {n k : Nat} (h1 : 2 ^ k ≤ n) (h2 : n < 2 ^ (k + 1)) : n.log2 = k := by
  have h0 : n ≠ 0 := by have := Nat.two_pow_pos k; omega
  have a : n.log2 < k + 1 := (Nat.log2_lt h0).2 h2
  have b : ¬ n.log2 < k := fun h => by have := (Nat.log2_lt h0).1 h; omega
  omega
theorem log2_le {n : Nat} (h0 : n ≠ 0) : 2 ^ n.log2 ≤ n := Nat.log2_self_le h0
theorem lt_log2 {n : Nat} : n < 2 ^ (n.log2 + 1) := Nat.lt_log2_self
theorem log2_div {n k : Nat} (h0 : n ≠ 0) (h : k ≤ n.log2) : (n / 2 ^ k).log2 = n.log2 - k := by
  have e1 : 2 ^ n.log2 = 2 ^ (n.log2 - k) * 2 ^ k := by rw [← Nat.pow_add]; congr 1; omega
  have e2 : 2 ^ (n.log2 + 1) = 2 ^ (n.log2 - k + 1) * 2 ^ k := by rw [← Nat.pow_add]; congr 1; omega
  apply log2_eq
  · rw [Nat.le_div_iff_mul_le (Nat.two_pow_pos k), ← e1]; exact log2_le h0
  · rw [Nat.div_lt_iff_lt_mul (Nat.two_pow_pos k), ← e2]; exact lt_log2
theorem div_pos {n k : Nat} (h0 : n ≠ 0) (h : k ≤ n.log2) : n / 2 ^ k ≠ 0 := by
  have : 2 ^ k ≤ n := Nat.le_trans (Nat.pow_le_pow_right (by decide) h) (log2_le h0)
  have : 0 < n / 2 ^ k := Nat.div_pos this (Nat.two_pow_pos k)
  omega
theorem div_div_pow (n a b : Nat) : n / 2 ^ a / 2 ^ b = n / 2 ^ (a + b) := by
  rw [Nat.div_div_eq_div_mul, Nat.pow_add]

/-- A leaf's node. -/
def leafN (h i : Nat) : Nat := 2 ^ h + i
theorem leafN_log2 {h i : Nat} (hi : i < 2 ^ h) : (leafN h i).log2 = h := log2_eq (by unfold leafN; omega) (by unfold leafN; rw [Nat.pow_succ]; omega)
theorem leafN_ne {h i : Nat} : leafN h i ≠ 0 := by have := Nat.two_pow_pos h; unfold leafN; omega

/-- May a node be? -/
def okN (h n : Nat) : Bool := decide (1 ≤ h) && decide (h ≤ 32) && decide (1 ≤ n) && decide (n < 2 ^ (h + 1))
theorem okN_iff {h n : Nat} : okN h n = true ↔ 1 ≤ h ∧ h ≤ 32 ∧ 1 ≤ n ∧ n < 2 ^ (h + 1) := by
  simp [okN, and_assoc]
theorem okN_log {h n : Nat} (hn : n ≠ 0) : n < 2 ^ (h + 1) ↔ n.log2 ≤ h := by
  rw [← Nat.log2_lt hn]; omega
/-- Is a above b (or b itself)? -/
def abv (a b : Nat) : Bool := decide (a.log2 ≤ b.log2) && (b / 2 ^ (b.log2 - a.log2) == a)
theorem abv_iff {a b : Nat} : abv a b = true ↔ a.log2 ≤ b.log2 ∧ b / 2 ^ (b.log2 - a.log2) = a := by simp [abv]
/-- May a subset be? -/
def okS (h i j : Nat) : Bool := okN h i && (j == 0 || (okN h j && abv i j && i != j))
theorem okS_iff {h i j : Nat} : okS h i j = true ↔ okN h i = true ∧ (j = 0 ∨ (okN h j = true ∧ abv i j = true ∧ i ≠ j)) := by
  simp [okS, and_assoc]
/-- Is leaf k in it? -/
def hasN (h i j k : Nat) : Bool := abv i (leafN h k) && (j == 0 || !abv j (leafN h k))

theorem xor_one (n : Nat) : (n ^^^ 1) / 2 = n / 2 ∧ n ^^^ 1 ≠ n := by
  constructor
  · have := Nat.xor_div_two (a := n) (b := 1)
    rw [this]; simp
  · intro h
    have : n ^^^ 1 ^^^ n = 0 := by rw [h]; exact Nat.xor_self n
    rw [Nat.xor_comm, ← Nat.xor_assoc, Nat.xor_self, Nat.zero_xor] at this
    exact absurd this (by decide)
theorem xor_one_div {n k : Nat} (hk : 1 ≤ k) : (n ^^^ 1) / 2 ^ k = n / 2 ^ k := by
  obtain ⟨k, rfl⟩ : ∃ m, k = m + 1 := ⟨k - 1, by omega⟩
  rw [Nat.pow_succ', ← Nat.div_div_eq_div_mul, ← Nat.div_div_eq_div_mul, (xor_one n).1]
theorem xor_one_log2 {n : Nat} (hn : 2 ≤ n) : (n ^^^ 1).log2 = n.log2 := by
  have h1 := (xor_one n).1
  have h0 : n.log2 ≠ 0 := by
    intro h
    have := (Nat.log2_lt (show n ≠ 0 by omega) (k := 1)).1 (by omega)
    omega
  have hx : n ^^^ 1 ≠ 0 := by omega
  have a := log2_le (n := n) (by omega)
  have b := lt_log2 (n := n)
  obtain ⟨k, hk⟩ : ∃ m, n.log2 = m + 1 := ⟨n.log2 - 1, by omega⟩
  rw [hk] at a b ⊢
  apply log2_eq
  · rw [Nat.pow_succ] at *; omega
  · have : 2 ^ (k + 1 + 1) = 2 * (2 * 2 ^ k) := by rw [Nat.pow_succ, Nat.pow_succ]; omega
    omega

/-- THE PAIRS of a leaf: each is a subset that has it. -/
theorem pair_has {h i t d : Nat} (h1 : 1 ≤ h) (h2 : h ≤ 32) (hi : i < 2 ^ h) (ht : t < d) (hd : d ≤ h) :
    okS h (leafN h i / 2 ^ (h - t)) ((leafN h i / 2 ^ (h - d)) ^^^ 1) = true ∧ hasN h (leafN h i / 2 ^ (h - t)) ((leafN h i / 2 ^ (h - d)) ^^^ 1) i = true := by
  have hl := leafN_log2 hi
  have hne := leafN_ne (h := h) (i := i)
  unfold hasN
  generalize leafN h i = L at *
  have lt : (L / 2 ^ (h - t)).log2 = t := by rw [log2_div hne (by omega)]; omega
  have ld : (L / 2 ^ (h - d)).log2 = d := by rw [log2_div hne (by omega)]; omega
  have nt : L / 2 ^ (h - t) ≠ 0 := div_pos hne (by omega)
  have nd : L / 2 ^ (h - d) ≠ 0 := div_pos hne (by omega)
  have nd2 : 2 ≤ L / 2 ^ (h - d) := by
    have := log2_le nd
    rw [ld] at this
    have : 2 ^ 1 ≤ 2 ^ d := Nat.pow_le_pow_right (by decide) (by omega)
    omega
  have lx : ((L / 2 ^ (h - d)) ^^^ 1).log2 = d := by rw [xor_one_log2 nd2, ld]
  have nx : (L / 2 ^ (h - d)) ^^^ 1 ≠ 0 := by
    intro h0; rw [h0, Nat.log2_zero] at lx; omega
  have hh : 2 ^ (h + 1) ≤ 2 ^ 33 := Nat.pow_le_pow_right (by decide) (by omega)
  have up : ((L / 2 ^ (h - d)) ^^^ 1) / 2 ^ (d - t) = L / 2 ^ (h - t) := by
    rw [xor_one_div (by omega), div_div_pow]; congr 2; omega
  refine ⟨okS_iff.2 ⟨okN_iff.2 ⟨h1, h2, Nat.pos_of_ne_zero nt, (okN_log nt).2 (by omega)⟩, .inr ⟨okN_iff.2 ⟨h1, h2, Nat.pos_of_ne_zero nx, (okN_log nx).2 (by omega)⟩, abv_iff.2 ⟨by omega, ?_⟩, ?_⟩⟩, ?_⟩
  · rw [lx, lt]; exact up
  · intro he; have := lt.symm.trans ((congrArg Nat.log2 he).trans lx); omega
  · simp only [Bool.and_eq_true, Bool.or_eq_true, Bool.not_eq_true', beq_iff_eq]
    refine ⟨abv_iff.2 ⟨by omega, by rw [lt, hl]⟩, .inr ?_⟩
    cases hb : abv ((L / 2 ^ (h - d)) ^^^ 1) L with
    | false => rfl
    | true =>
      have e := (abv_iff.1 hb).2
      rw [lx, hl] at e
      exact absurd e.symm (xor_one _).2
end Go.AM.Seat
