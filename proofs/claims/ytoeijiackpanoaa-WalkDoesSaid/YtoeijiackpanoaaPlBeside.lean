/- Plain: the node beside a leaf's chain. -/
import Derived.Test.YtoeijiackpanoaaSeM4
set_option linter.unusedVariables false
set_option maxRecDepth 100000
namespace Go.AM.Seat
open Go Go.AM Go.Proofs

theorem xor_div {a b : Nat} (k : Nat) : (a ^^^ b) / 2 ^ k = (a / 2 ^ k) ^^^ (b / 2 ^ k) := by
  rw [← Nat.shiftRight_eq_div_pow, ← Nat.shiftRight_eq_div_pow, ← Nat.shiftRight_eq_div_pow, Nat.shiftRight_xor_distrib]
theorem xor_zero {a b : Nat} : a ^^^ b = 0 ↔ a = b := by
  constructor
  · intro h
    have : a ^^^ b ^^^ b = 0 ^^^ b := by rw [h]
    rwa [Nat.xor_assoc, Nat.xor_self, Nat.xor_zero, Nat.zero_xor] at this
  · rintro rfl; exact Nat.xor_self a
theorem agree_iff {a b k : Nat} : a / 2 ^ k = b / 2 ^ k ↔ a ^^^ b < 2 ^ k := by
  rw [← xor_zero, ← xor_div, Nat.div_eq_zero_iff_lt (Nat.two_pow_pos k)]
theorem xorI_nat {a b : Nat} (ha : a < 2 ^ 64) (hb : b < 2 ^ 64) : xorI a b = ((a ^^^ b : Nat) : Int) := by
  unfold xorI
  have e1 : (BitVec.ofInt 64 (a : Int)).toNat = a := by rw [BitVec.toNat_ofInt]; omega
  have e2 : (BitVec.ofInt 64 (b : Int)).toNat = b := by rw [BitVec.toNat_ofInt]; omega
  rw [BitVec.toNat_xor, e1, e2, wrapU]
  · omega
  · have := Nat.xor_lt_two_pow ha hb; omega
theorem depI_nat {n : Nat} (h : n ≠ 0) : depI (n : Int) = (n.log2 : Int) := by rw [dep_nat (by omega), Int.toNat_natCast]
theorem chk_natOk {H n : Nat} (h : okN H n = true) : (chkI (H : Int) (n : Int) != 0) = false := by rw [chk_ne (by omega), Int.toNat_natCast, Int.toNat_natCast, h]; rfl
/-- BESIDE: the last node of J's chain that is not of the leaf's. -/
theorem beside_nat {H x J : Nat} (a : LeafAt H x) (hJ : okN H J = true) (hn : abv J (leafN H x) = false) : ∃ q, 1 ≤ q ∧ q ≤ J.log2 ∧
    leafN H x / 2 ^ (H - J.log2) / 2 ^ q = J / 2 ^ q ∧ leafN H x / 2 ^ (H - J.log2) / 2 ^ (q - 1) ≠ J / 2 ^ (q - 1) ∧
    besI (H : Int) ((leafN H x : Nat) : Int) (J : Int) = (((J / 2 ^ (q - 1) : Nat) : Int), 0) := by
  obtain ⟨_, _, j1, j2⟩ := okN_iff.1 hJ
  have hj0 : J ≠ 0 := by omega
  have hD := (okN_log (h := H) hj0).1 j2
  have hl := a.log
  have hL0 := leafN_ne (h := H) (i := x)
  have hb := a.lt
  have h32 := a.h2
  have h1 := a.h1
  have hJ64 : J < 2 ^ 64 := by
    have : 2 ^ (H + 1) ≤ 2 ^ 33 := Nat.pow_le_pow_right (by decide) (by omega)
    omega
  have hLok : okN H (leafN H x) = true := okN_iff.2 ⟨a.h1, a.h2, by omega, (okN_log hL0).2 (by omega)⟩
  generalize hLe : leafN H x = L at *
  generalize hDe : J.log2 = D at *
  have hA0 : L / 2 ^ (H - D) ≠ 0 := div_pos hL0 (by omega)
  have hAl : (L / 2 ^ (H - D)).log2 = D := by rw [log2_div hL0 (by omega)]; omega
  have hA64 : L / 2 ^ (H - D) < 2 ^ 64 := Nat.lt_of_le_of_lt (Nat.div_le_self _ _) (by omega)
  have hne : L / 2 ^ (H - D) ≠ J := by
    intro e
    have : abv J L = true := abv_iff.2 ⟨by omega, by rw [hDe, hl]; exact e⟩
    rw [this] at hn; cases hn
  generalize hAe : L / 2 ^ (H - D) = A at *
  have hx0 : A ^^^ J ≠ 0 := fun e => hne (xor_zero.1 e)
  have htop : A / 2 ^ D = J / 2 ^ D := by
    have k1 := log2_le hA0
    have k2 := lt_log2 (n := A)
    have k3 := log2_le hj0
    have k4 := lt_log2 (n := J)
    rw [hAl] at k1 k2
    rw [hDe] at k3 k4
    rw [Nat.pow_succ] at k2 k4
    rw [Nat.div_eq_of_lt_le (k := 1) (by omega) (by omega), Nat.div_eq_of_lt_le (k := 1) (by omega) (by omega)]
  have hxl : (A ^^^ J).log2 < D := (Nat.log2_lt hx0).2 (agree_iff.1 htop)
  have hx64 : A ^^^ J < 2 ^ 64 := Nat.xor_lt_two_pow hA64 hJ64
  refine ⟨(A ^^^ J).log2 + 1, by omega, by omega, agree_iff.2 lt_log2, fun e => ?_, ?_⟩
  · rw [Nat.add_sub_cancel] at e
    have := agree_iff.1 e
    have := log2_le hx0
    omega
  · rw [Nat.add_sub_cancel]
    have m1 : minI (H : Int) (D : Int) = (D : Int) := by unfold minI; split <;> omega
    have e1 : meetI (H : Int) (L : Int) (J : Int) = (((A / 2 ^ ((A ^^^ J).log2 + 1) : Nat) : Int), 0) := by
      unfold meetI bothI both
      rw [chk_natOk hLok, chk_natOk hJ, depI_nat hL0, depI_nat hj0, hl, hDe, m1]
      simp only [cond_false]
      have s1 : shrI (L : Int) ((H - D : Nat) : Int) = (A : Int) := by rw [shr_nat (by omega) (by omega), Int.toNat_natCast, Int.toNat_natCast, hAe]
      have s2 : shrI (J : Int) ((0 : Nat) : Int) = (J : Int) := by rw [shr_nat (by omega) (by omega), Int.toNat_natCast, Int.toNat_natCast, Nat.pow_zero, Nat.div_one]
      rw [show (H : Int) - (D : Int) = ((H - D : Nat) : Int) by omega, show (D : Int) - (D : Int) = ((0 : Nat) : Int) by omega, s1, s2]
      rw [xorI_nat hA64 hJ64, lenI_nat hx0, show ((A ^^^ J).log2 : Int) + 1 = (((A ^^^ J).log2 + 1 : Nat) : Int) by omega, shr_nat (by omega) (by omega), Int.toNat_natCast, Int.toNat_natCast]
      rfl
    have hm0 : A / 2 ^ ((A ^^^ J).log2 + 1) ≠ 0 := div_pos hA0 (by omega)
    have hml : (A / 2 ^ ((A ^^^ J).log2 + 1)).log2 = D - ((A ^^^ J).log2 + 1) := by rw [log2_div hA0 (by omega), hAl]
    have e2 : depthI (H : Int) (((A / 2 ^ ((A ^^^ J).log2 + 1) : Nat) : Int)) = (((D - ((A ^^^ J).log2 + 1) : Nat) : Int), 0) := by
      unfold depthI
      rw [chk_natOk (okN_iff.2 ⟨a.h1, a.h2, Nat.pos_of_ne_zero hm0, (okN_log hm0).2 (by omega)⟩), depI_nat hm0, hml]; rfl
    unfold besI
    rw [e1, e2]
    show upI (H : Int) (J : Int) (IntKind.i64.wrap (((D - ((A ^^^ J).log2 + 1) : Nat) : Int) + 1)) = _
    rw [wrap64 (by omega) (by omega)]
    unfold upI outUp
    rw [chk_natOk hJ, depI_nat hj0, hDe, decide_eq_false (show ¬ ((D - ((A ^^^ J).log2 + 1) : Nat) : Int) + 1 < 0 by omega), decide_eq_false (show ¬ ((D - ((A ^^^ J).log2 + 1) : Nat) : Int) + 1 > (D : Int) by omega)]
    show (shrI (J : Int) ((D : Int) - (((D - ((A ^^^ J).log2 + 1) : Nat) : Int) + 1)), (0 : Int)) = _
    rw [show (D : Int) - (((D - ((A ^^^ J).log2 + 1) : Nat) : Int) + 1) = (((A ^^^ J).log2 : Nat) : Int) by omega, shr_nat (by omega) (by omega), Int.toNat_natCast, Int.toNat_natCast]
end Go.AM.Seat
