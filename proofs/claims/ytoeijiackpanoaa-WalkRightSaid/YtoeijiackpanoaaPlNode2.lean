/- Plain: what the code of nodes and subsets reckons, in natural numbers. -/
import Derived.Test.YtoeijiackpanoaaSeN3
set_option linter.unusedVariables false
namespace Go.AM.Seat
open Go Go.AM

theorem bad_iff {h n : Int} : badN h n = false ↔ highB h = true ∧ 1 ≤ n ∧ depI n ≤ h := by
  refine ⟨bad_false, fun ⟨h1, h2, h3⟩ => ?_⟩
  unfold badN
  rw [h1, decide_eq_false (show ¬ n < 1 by omega)]
  exact decide_eq_false (by omega)
theorem dep_nat {n : Int} (h : 1 ≤ n) : depI n = (n.toNat.log2 : Int) := by
  obtain ⟨m, rfl⟩ := Int.eq_ofNat_of_zero_le (show 0 ≤ n by omega)
  unfold depI
  rw [lenI_nat (by omega)]
  show ((m.log2 : Int) + 1) - 1 = _
  rw [Int.toNat_natCast]; omega
theorem chk_nat {h n : Int} (h0 : 0 ≤ n) : chkI h n = bif okN h.toNat n.toNat then 0 else 1 := by
  have key : badN h n = !okN h.toNat n.toNat := by
    cases ho : okN h.toNat n.toNat with
    | true =>
      obtain ⟨h1, h2, h3, h4⟩ := okN_iff.1 ho
      refine bad_iff.2 ⟨highB_iff.2 (by omega), by omega, ?_⟩
      rw [dep_nat (by omega)]
      have := (okN_log (h := h.toNat) (n := n.toNat) (by omega)).1 h4
      omega
    | false =>
      cases hb : badN h n with
      | true => rfl
      | false =>
        obtain ⟨h1, h2, h3⟩ := bad_iff.1 hb
        have h1 := highB_iff.1 h1
        rw [dep_nat h2] at h3
        have : okN h.toNat n.toNat = true := okN_iff.2 ⟨by omega, by omega, by omega, (okN_log (by omega)).2 (by omega)⟩
        rw [this] at ho; cases ho
  unfold chkI; rw [key]
  cases okN h.toNat n.toNat <;> rfl
theorem shl_nat {a k : Nat} (hk : k ≤ 64) (h : a * 2 ^ k < 2 ^ 64) : shlI a k = ((a * 2 ^ k : Nat) : Int) := by
  unfold shlI
  rw [Int.toNat_natCast, Nat.min_eq_left hk, wrapU]
  · simp
  · exact Int.mul_nonneg (by omega) (Int.le_of_lt (Int.pow_pos (by decide)))
  · have : ((a * 2 ^ k : Nat) : Int) < 18446744073709551616 := by omega
    have e : ((a * 2 ^ k : Nat) : Int) = (a : Int) * 2 ^ k := by simp
    rw [← e]; omega
theorem pow32 {h : Nat} (h1 : h ≤ 32) : 2 ^ h ≤ 2 ^ 32 := Nat.pow_le_pow_right (by decide) h1
theorem or_nat {a b : Nat} (ha : a < 2 ^ 64) (hb : b < 2 ^ 64) : orU a b = ((a ||| b : Nat) : Int) := by
  unfold orU
  have e1 : (BitVec.ofInt 64 (a : Int)).toNat = a := by rw [BitVec.toNat_ofInt]; omega
  have e2 : (BitVec.ofInt 64 (b : Int)).toNat = b := by rw [BitVec.toNat_ofInt]; omega
  rw [BitVec.toNat_or, e1, e2, wrapU]
  · omega
  · have := Nat.or_lt_two_pow ha hb; omega
def leafV (h i : Nat) : Int × Int := bif decide (1 ≤ h) && decide (h ≤ 32) then bif decide (i < 2 ^ h) then ((leafN h i : Nat), 0) else (0, 4) else (0, 1)
theorem leaf_nat {h i : Int} (h0 : 0 ≤ i) (h1 : i.toNat < 2 ^ 64) : leafI h i = leafV h.toNat i.toNat := by
  unfold leafI leafV
  cases hh : highB h with
  | false =>
    have : ¬ (1 ≤ h ∧ h ≤ 32) := fun h => by rw [highB_iff.2 h] at hh; cases hh
    have e : (decide (1 ≤ h.toNat) && decide (h.toNat ≤ 32)) = false := by
      cases h2 : decide (1 ≤ h.toNat) with
      | false => rfl
      | true => exact decide_eq_false (by have := of_decide_eq_true h2; omega)
    rw [e]; rfl
  | true =>
    have h2 := highB_iff.1 hh
    have e : (decide (1 ≤ h.toNat) && decide (h.toNat ≤ 32)) = true := by simp; omega
    rw [e]
    simp only [Bool.not_true, cond_true, cond_false]
    have e2 : h = (h.toNat : Int) := by omega
    rw [shr_nat h0 (by omega)]
    have hp := pow32 (h := h.toNat) (by omega)
    have hp0 := Nat.two_pow_pos h.toNat
    cases hi : decide (i.toNat < 2 ^ h.toNat) with
    | false =>
      have hi := of_decide_eq_false hi
      have : 0 < i.toNat / 2 ^ h.toNat := Nat.div_pos (by omega) hp0
      rw [decide_eq_true (by omega)]; rfl
    | true =>
      have hi := of_decide_eq_true hi
      have : i.toNat / 2 ^ h.toNat = 0 := Nat.div_eq_of_lt hi
      rw [this, decide_eq_false (by omega)]
      simp only [cond_false, cond_true]
      have e3 : shlI 1 h = ((2 ^ h.toNat : Nat) : Int) := by
        have := shl_nat (a := 1) (k := h.toNat) (by omega) (by omega)
        rw [← e2, Nat.one_mul] at this; exact this
      have e4 : i = (i.toNat : Int) := by omega
      have e5 : orU (shlI 1 h) i = ((leafN h.toNat i.toNat : Nat) : Int) := by
        rw [e3, e4, or_nat (by omega) (by omega)]
        have := Nat.two_pow_add_eq_or_of_lt hi 1
        rw [Nat.mul_one] at this
        rw [Int.toNat_natCast, ← this]; rfl
      rw [e5]
theorem above_nat {a b : Int} (ha : 1 ≤ a) (hb : 1 ≤ b) (h64 : b.toNat < 2 ^ 64) : aboveB a b = abv a.toNat b.toNat := by
  unfold aboveB abv
  rw [dep_nat ha, dep_nat hb]
  have hl : b.toNat.log2 < 64 := (Nat.log2_lt (by omega)).2 h64
  cases h : decide (a.toNat.log2 ≤ b.toNat.log2) with
  | false =>
    rw [decide_eq_false (by have := of_decide_eq_false h; omega)]; rfl
  | true =>
    have h := of_decide_eq_true h
    rw [decide_eq_true (by omega), shr_nat (by omega) (by omega)]
    simp only [cond_true, Bool.true_and]
    have e : ((b.toNat.log2 : Int) - (a.toNat.log2 : Int)).toNat = b.toNat.log2 - a.toNat.log2 := by omega
    rw [e]
    apply Bool.eq_iff_iff.2
    simp only [beq_iff_eq]
    omega
theorem okN_pow {h n : Nat} (hk : okN h n = true) : 2 ^ h ≤ n * 2 ^ (h - n.log2) ∧ n * 2 ^ (h - n.log2) + 2 ^ (h - n.log2) ≤ 2 ^ (h + 1) ∧ n.log2 ≤ h := by
  obtain ⟨h1, h2, h3, h4⟩ := okN_iff.1 hk
  have hl := (okN_log (h := h) (n := n) (by omega)).1 h4
  have a := log2_le (n := n) (by omega)
  have b := lt_log2 (n := n)
  have e1 : 2 ^ h = 2 ^ n.log2 * 2 ^ (h - n.log2) := by rw [← Nat.pow_add]; congr 1; omega
  have e2 : 2 ^ (h + 1) = 2 ^ (n.log2 + 1) * 2 ^ (h - n.log2) := by rw [← Nat.pow_add]; congr 1; omega
  refine ⟨?_, ?_, hl⟩
  · rw [e1]; exact Nat.mul_le_mul_right _ a
  · rw [e2, ← Nat.succ_mul]; exact Nat.mul_le_mul_right _ b
theorem within_nat {h n i : Int} (h0 : 0 ≤ n) (hi0 : 0 ≤ i) (hk : okN h.toNat n.toNat = true) (hi : i.toNat < 2 ^ h.toNat) : (leavesI h n).2 = 0 ∧ within (leavesI h n).1 i = abv n.toNat (leafN h.toNat i.toNat) := by
  have hc : (chkI h n != 0) = false := by rw [chk_nat h0, hk]; rfl
  obtain ⟨h1, h2, h3⟩ := chk_zero hc
  have h1 := highB_iff.1 h1
  obtain ⟨p1, p2, p3⟩ := okN_pow hk
  have hp := pow32 (h := h.toNat) (by omega)
  have hp1 : 2 ^ (h.toNat + 1) = 2 * 2 ^ h.toNat := by rw [Nat.pow_succ]; omega
  unfold leavesI
  rw [hc, dep_nat h2]
  refine ⟨rfl, ?_⟩
  simp only [cond_false]
  have ed : h - (n.toNat.log2 : Int) = ((h.toNat - n.toNat.log2 : Nat) : Int) := by omega
  rw [ed]
  have hll := leafN_log2 hi
  have ell : leafN h.toNat i.toNat = 2 ^ h.toNat + i.toNat := rfl
  generalize hD : h.toNat - n.toNat.log2 = d at *
  have hd0 := Nat.two_pow_pos d
  have e1 : shlI n d = ((n.toNat * 2 ^ d : Nat) : Int) := by
    have := shl_nat (a := n.toNat) (k := d) (by omega) (by omega)
    rw [← this]; congr 1; omega
  have e2 : shlI 1 h = ((2 ^ h.toNat : Nat) : Int) := by
    have := shl_nat (a := 1) (k := h.toNat) (by omega) (by omega)
    rw [Nat.one_mul] at this
    rw [← this]; congr 1; omega
  have e3 : shlI 1 d = ((2 ^ d : Nat) : Int) := by
    have hd : 2 ^ d ≤ 2 ^ 32 := pow32 (by omega)
    have := shl_nat (a := 1) (k := d) (by omega) (by omega)
    rw [Nat.one_mul] at this
    exact this
  have hlow : lowI h n d = ((n.toNat * 2 ^ d - 2 ^ h.toNat : Nat) : Int) := by
    unfold lowI
    rw [e1, e2, wrapU (by omega) (by omega)]; omega
  have htop : topI h n d = ((n.toNat * 2 ^ d - 2 ^ h.toNat + 2 ^ d - 1 : Nat) : Int) := by
    have hd0 := Nat.two_pow_pos d
    unfold topI
    rw [hlow, e3, wrapU (n := _ + _) (by omega) (by omega), wrapU (by omega) (by omega)]; omega
  rw [hlow, htop]
  have hd0 := Nat.two_pow_pos d
  unfold within abv
  rw [hll, hD, decide_eq_true p3, Bool.true_and]
  apply Bool.eq_iff_iff.2
  simp only [beq_iff_eq]
  rw [Nat.div_eq_iff hd0, ell]
  constructor
  · intro hx
    cases hy : decide (((n.toNat * 2 ^ d - 2 ^ h.toNat : Nat) : Int) ≤ i) with
    | false => rw [hy] at hx; cases hx
    | true =>
      rw [hy] at hx
      have hx := of_decide_eq_true hx
      have hy := of_decide_eq_true hy
      constructor <;> omega
  · rintro ⟨ha, hb⟩
    rw [decide_eq_true (by omega)]
    exact decide_eq_true (by omega)

def leafOk (h i : Nat) : Bool := decide (1 ≤ h) && decide (h ≤ 32) && decide (i < 2 ^ h)
theorem leafOk_iff {h i : Nat} : leafOk h i = true ↔ 1 ≤ h ∧ h ≤ 32 ∧ i < 2 ^ h := by simp [leafOk, and_assoc]
theorem leafV_err {h i : Nat} : ((leafV h i).2 == 0) = leafOk h i := by
  unfold leafV leafOk
  cases decide (1 ≤ h) && decide (h ≤ 32) with
  | false => rfl
  | true => cases decide (i < 2 ^ h) <;> rfl
theorem leaf_err {h i : Int} (h0 : 0 ≤ i) (h1 : i.toNat < 2 ^ 64) : ((leafI h i).2 == 0) = leafOk h.toNat i.toNat := by rw [leaf_nat h0 h1]; exact leafV_err
theorem okN_one {h : Nat} : okN h 1 = (decide (1 ≤ h) && decide (h ≤ 32)) := by
  apply Bool.eq_iff_iff.2
  rw [okN_iff]
  simp only [Bool.and_eq_true, decide_eq_true_eq]
  constructor
  · rintro ⟨a, b, _, _⟩; exact ⟨a, b⟩
  · rintro ⟨a, b⟩
    have : 2 ^ 1 ≤ 2 ^ (h + 1) := Nat.pow_le_pow_right (by decide) (by omega)
    exact ⟨a, b, Nat.le_refl 1, by omega⟩
theorem chk_ne {h n : Int} (h0 : 0 ≤ n) : (chkI h n != 0) = !okN h.toNat n.toNat := by
  rw [chk_nat h0]; cases okN h.toNat n.toNat <;> rfl
theorem noLeaf_nat {h i : Int} (h0 : 0 ≤ i) (h1 : i.toNat < 2 ^ 64) : noLeaf h i = !leafOk h.toNat i.toNat := by
  unfold noLeaf lchk
  rw [leaf_err h0 h1, chk_ne (by decide)]
  show (bif (bif !okN h.toNat 1 then (1 : Int) else 0) != 0 then true else !leafOk h.toNat i.toNat) = _
  rw [okN_one]
  unfold leafOk
  cases decide (1 ≤ h.toNat) && decide (h.toNat ≤ 32) <;> cases decide (i.toNat < 2 ^ h.toNat) <;> rfl
theorem subE_nat {h : Int} {s : Int × Int} (h1 : IntKind.u64.has s.1) (h2 : IntKind.u64.has s.2) : subE h s = bif okS h.toNat s.1.toNat s.2.toNat then 0 else 1 := by
  obtain ⟨i, j⟩ := s
  obtain ⟨a0, a1, a2⟩ := hasU h1
  obtain ⟨b0, b1, b2⟩ := hasU h2
  simp only at a0 a1 a2 b0 b1 b2 ⊢
  unfold subE okS
  simp only
  have e0 : (j == 0) = (j.toNat == 0) := by apply Bool.eq_iff_iff.2; simp; omega
  rw [e0]
  cases hj : j.toNat == 0 with
  | true =>
    simp only [cond_true, Bool.true_or, Bool.and_true]
    exact chk_nat a0
  | false =>
    simp only [cond_false, Bool.false_or]
    have hj : j.toNat ≠ 0 := by simpa using hj
    have e1 : (aboveI h i j) = bif okN h.toNat i.toNat && okN h.toNat j.toNat then (aboveB i j, 0) else (false, 1) := by
      unfold aboveI bothI both
      rw [chk_ne a0, chk_ne b0]
      cases okN h.toNat i.toNat <;> cases okN h.toNat j.toNat <;> rfl
    rw [e1]
    cases ho : okN h.toNat i.toNat with
    | false => rfl
    | true =>
      cases hp : okN h.toNat j.toNat with
      | false => rfl
      | true =>
        have hi := (okN_iff.1 ho).2.2.1
        rw [above_nat (by omega) (by omega) b1]
        have e2 : (i == j) = (i.toNat == j.toNat) := by apply Bool.eq_iff_iff.2; simp; omega
        show (bif bif !(abv i.toNat j.toNat) then true else i == j then (1 : Int) else 0) = bif abv i.toNat j.toNat && i.toNat != j.toNat then 0 else 1
        rw [e2]
        unfold bne
        cases abv i.toNat j.toNat <;> cases i.toNat == j.toNat <;> rfl
theorem subE_ne {h : Int} {s : Int × Int} (h1 : IntKind.u64.has s.1) (h2 : IntKind.u64.has s.2) : (subE h s != 0) = !okS h.toNat s.1.toNat s.2.toNat := by
  rw [subE_nat h1 h2]; cases okS h.toNat s.1.toNat s.2.toNat <;> rfl
/-- HAS: what the code reckons is the plain one. -/
theorem has_nat {h i : Int} {s : Int × Int} (h1 : IntKind.u64.has s.1) (h2 : IntKind.u64.has s.2) (hi : IntKind.u64.has i) :
    hasI h s i = bif okS h.toNat s.1.toNat s.2.toNat && leafOk h.toNat i.toNat then (hasN h.toNat s.1.toNat s.2.toNat i.toNat, 0) else (false, 1) := by
  obtain ⟨c0, c1, c2⟩ := hasU hi
  obtain ⟨a0, a1, a2⟩ := hasU h1
  obtain ⟨b0, b1, b2⟩ := hasU h2
  unfold hasI badH inS bothS
  rw [noLeaf_nat c0 c1, subE_ne h1 h2]
  cases hk : okS h.toNat s.1.toNat s.2.toNat with
  | false =>
    rw [show subE h s = 1 by rw [subE_nat h1 h2, hk]; rfl]; rfl
  | true =>
    obtain ⟨k1, k2⟩ := okS_iff.1 hk
    simp only [Bool.not_true, cond_false, Bool.true_and]
    have e0 : (s.2 == 0) = (s.2.toNat == 0) := by apply Bool.eq_iff_iff.2; simp; omega
    cases hl : leafOk h.toNat i.toNat with
    | false =>
      simp only [Bool.not_false, cond_true]
      have : ∀ b : Bool, (bif b then true else (1 : Int) != 0) = true := by intro b; cases b <;> rfl
      rw [this]; rfl
    | true =>
      have hl := (leafOk_iff.1 hl).2.2
      obtain ⟨w1, w2⟩ := within_nat a0 c0 k1 hl
      have w1' : ((leavesI h s.1).2 == 0) = true := by rw [w1]; rfl
      simp only [Bool.not_true, cond_false, cond_true, w1']
      unfold hasN
      cases hj : s.2.toNat == 0 with
      | true =>
        have : (s.2 != 0) = false := by unfold bne; rw [e0, hj]; rfl
        rw [this, e0, hj]
        simp only [cond_false, cond_true, w1, w2, Bool.true_or, Bool.and_true]
        cases abv s.1.toNat (leafN h.toNat i.toNat) <;> rfl
      | false =>
        have : (s.2 != 0) = true := by unfold bne; rw [e0, hj]; rfl
        rw [this, e0, hj]
        have hj : s.2.toNat ≠ 0 := by simpa using hj
        obtain ⟨j1, j2, j3⟩ := k2.resolve_left hj
        obtain ⟨x1, x2⟩ := within_nat b0 c0 j1 hl
        simp only [cond_false, cond_true, x1, x2, w2, Bool.false_or]
        cases abv s.1.toNat (leafN h.toNat i.toNat) <;> cases abv s.2.toNat (leafN h.toNat i.toNat) <;> rfl
end Go.AM.Seat
