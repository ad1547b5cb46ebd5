/- Plain: whether a leaf is in a subset, in natural numbers. -/
import Derived.Test.YtoeijiackpanoaaPlNode2
set_option linter.unusedVariables false
namespace Go.AM.Seat
open Go Go.AM

def leafOk (h i : Nat) : Bool := decide (1 ≤ h) && decide (h ≤ 32) && decide (i < 2 ^ h)
theorem leafOk_iff {h i : Nat} : leafOk h i = true ↔ 1 ≤ h ∧ h ≤ 32 ∧ i < 2 ^ h := by simp [leafOk, and_assoc]
theorem leafV_err {h i : Nat} : ((leafV h i).2 == 0) = leafOk h i := by
  unfold leafV leafOk
  cases decide (1 ≤ h) && decide (h ≤ 32) with
  | false => rfl
  | true => cases decide (i < 2 ^ h) <;> rfl
theorem leaf_err {h i : Int} (h0 : 0 ≤ i) (h1 : i.toNat < 2 ^ 64) : ((leafI h i).2 == 0) = leafOk h.toNat i.toNat := by rw [leaf_nat h0 h1]; exact leafV_err
theorem okN_one {h : Nat} : okN h 1 = (decide (1 ≤ h) && decide (h ≤ 32)) := by
  apply Bool.eq_iff_iff.2
  rw [okN_iff]
  simp only [Bool.and_eq_true, decide_eq_true_eq]
  constructor
  · rintro ⟨a, b, _, _⟩; exact ⟨a, b⟩
  · rintro ⟨a, b⟩
    have : 2 ^ 1 ≤ 2 ^ (h + 1) := Nat.pow_le_pow_right (by decide) (by omega)
    exact ⟨a, b, Nat.le_refl 1, by omega⟩
theorem chk_ne {h n : Int} (h0 : 0 ≤ n) : (chkI h n != 0) = !okN h.toNat n.toNat := by
  rw [chk_nat h0]; cases okN h.toNat n.toNat <;> rfl
theorem noLeaf_nat {h i : Int} (h0 : 0 ≤ i) (h1 : i.toNat < 2 ^ 64) : noLeaf h i = !leafOk h.toNat i.toNat := by
  unfold noLeaf lchk
  rw [leaf_err h0 h1, chk_ne (by decide)]
  show (bif (bif !okN h.toNat 1 then (1 : Int) else 0) != 0 then true else !leafOk h.toNat i.toNat) = _
  rw [okN_one]
  unfold leafOk
  cases decide (1 ≤ h.toNat) && decide (h.toNat ≤ 32) <;> cases decide (i.toNat < 2 ^ h.toNat) <;> rfl
theorem subE_nat {h : Int} {s : Int × Int} (h1 : IntKind.u64.has s.1) (h2 : IntKind.u64.has s.2) : subE h s = bif okS h.toNat s.1.toNat s.2.toNat then 0 else 1 := by
  obtain ⟨i, j⟩ := s
  obtain ⟨a0, a1, a2⟩ := hasU h1
  obtain ⟨b0, b1, b2⟩ := hasU h2
  simp only at a0 a1 a2 b0 b1 b2 ⊢
  unfold subE okS
  simp only
  have e0 : (j == 0) = (j.toNat == 0) := by apply Bool.eq_iff_iff.2; simp; omega
  rw [e0]
  cases hj : j.toNat == 0 with
  | true =>
    simp only [cond_true, Bool.true_or, Bool.and_true]
    exact chk_nat a0
  | false =>
    simp only [cond_false, Bool.false_or]
    have hj : j.toNat ≠ 0 := by simpa using hj
    have e1 : (aboveI h i j) = bif okN h.toNat i.toNat && okN h.toNat j.toNat then (aboveB i j, 0) else (false, 1) := by
      unfold aboveI bothI both
      rw [chk_ne a0, chk_ne b0]
      cases okN h.toNat i.toNat <;> cases okN h.toNat j.toNat <;> rfl
    rw [e1]
    cases ho : okN h.toNat i.toNat with
    | false => rfl
    | true =>
      cases hp : okN h.toNat j.toNat with
      | false => rfl
      | true =>
        have hi := (okN_iff.1 ho).2.2.1
        rw [above_nat (by omega) (by omega) b1]
        have e2 : (i == j) = (i.toNat == j.toNat) := by apply Bool.eq_iff_iff.2; simp; omega
        show (bif bif !(abv i.toNat j.toNat) then true else i == j then (1 : Int) else 0) = bif abv i.toNat j.toNat && i.toNat != j.toNat then 0 else 1
        rw [e2]
        unfold bne
        cases abv i.toNat j.toNat <;> cases i.toNat == j.toNat <;> rfl
theorem subE_ne {h : Int} {s : Int × Int} (h1 : IntKind.u64.has s.1) (h2 : IntKind.u64.has s.2) : (subE h s != 0) = !okS h.toNat s.1.toNat s.2.toNat := by
  rw [subE_nat h1 h2]; cases okS h.toNat s.1.toNat s.2.toNat <;> rfl
/-- HAS: what the code reckons is the plain one. -/
theorem has_nat {h i : Int} {s : Int × Int} (h1 : IntKind.u64.has s.1) (h2 : IntKind.u64.has s.2) (hi : IntKind.u64.has i) :
    hasI h s i = bif okS h.toNat s.1.toNat s.2.toNat && leafOk h.toNat i.toNat then (hasN h.toNat s.1.toNat s.2.toNat i.toNat, 0) else (false, 1) := by
  obtain ⟨c0, c1, c2⟩ := hasU hi
  obtain ⟨a0, a1, a2⟩ := hasU h1
  obtain ⟨b0, b1, b2⟩ := hasU h2
  unfold hasI badH inS bothS
  rw [noLeaf_nat c0 c1, subE_ne h1 h2]
  cases hk : okS h.toNat s.1.toNat s.2.toNat with
  | false =>
    rw [show subE h s = 1 by rw [subE_nat h1 h2, hk]; rfl]; rfl
  | true =>
    obtain ⟨k1, k2⟩ := okS_iff.1 hk
    simp only [Bool.not_true, cond_false, Bool.true_and]
    have e0 : (s.2 == 0) = (s.2.toNat == 0) := by apply Bool.eq_iff_iff.2; simp; omega
    cases hl : leafOk h.toNat i.toNat with
    | false =>
      simp only [Bool.not_false, cond_true]
      have : ∀ b : Bool, (bif b then true else (1 : Int) != 0) = true := by intro b; cases b <;> rfl
      rw [this]; rfl
    | true =>
      have hl := (leafOk_iff.1 hl).2.2
      obtain ⟨w1, w2⟩ := within_nat a0 c0 k1 hl
      have w1' : ((leavesI h s.1).2 == 0) = true := by rw [w1]; rfl
      simp only [Bool.not_true, cond_false, cond_true, w1']
      unfold hasN
      cases hj : s.2.toNat == 0 with
      | true =>
        have : (s.2 != 0) = false := by unfold bne; rw [e0, hj]; rfl
        rw [this, e0, hj]
        simp only [cond_false, cond_true, w1, w2, Bool.true_or, Bool.and_true]
        cases abv s.1.toNat (leafN h.toNat i.toNat) <;> rfl
      | false =>
        have : (s.2 != 0) = true := by unfold bne; rw [e0, hj]; rfl
        rw [this, e0, hj]
        have hj : s.2.toNat ≠ 0 := by simpa using hj
        obtain ⟨j1, j2, j3⟩ := k2.resolve_left hj
        obtain ⟨x1, x2⟩ := within_nat b0 c0 j1 hl
        simp only [cond_false, cond_true, x1, x2, w2, Bool.false_or]
        cases abv s.1.toNat (leafN h.toNat i.toNat) <;> cases abv s.2.toNat (leafN h.toNat i.toNat) <;> rfl
end Go.AM.Seat
