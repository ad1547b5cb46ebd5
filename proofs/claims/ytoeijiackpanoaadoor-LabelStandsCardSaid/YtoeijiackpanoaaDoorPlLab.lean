/- Labels: plain laws: a value that may be walked from; a label's way, a side more. -/
import Derived.Test.YtoeijiackpanoaaDoorSeLb
set_option linter.unusedVariables false
set_option linter.unusedSimpArgs false
namespace Go.AM.Seat
open Go Go.AM Go.Proofs

/-- A value that may be, and is not sealed, stands for itself. -/
theorem den_of {l : List Term.D} {v : Value.D} (h : startE l v = 0) : ∃ sym b t0, Den sym b t0 l [] v := by
  unfold startE at h
  cases hb : b51 l v with
  | true => rw [hb] at h; cases h
  | false =>
    rw [hb] at h
    have hc : checkV l v = 0 := h
    have hg : GoodL l := checkL_iff.1 (checkV_zero.1 hc).1
    unfold b51 at hb
    rw [hc] at hb
    simp only [beq_self_eq_true, cond_true] at hb
    cases hs : v.1 with
    | true =>
      obtain ⟨e, h0, h1⟩ := plain_sym hc hs
      obtain ⟨t, ht⟩ := Int.eq_ofNat_of_zero_le h0
      rw [ht] at e h1
      have hk : ((tAt l v.2.2.2.2).1 == 5) = false := by
        rw [hs] at hb
        cases h2 : v.2.1 with
        | true => rw [h2] at hb; cases hb
        | false => rw [h2] at hb; exact hb
      rw [ht] at hk
      have hlt : t < l.length := by simpa using h1
      have hx : l[t]? = some l[t] := List.getElem?_eq_getElem hlt
      refine ⟨true, (0, 0), t, hg, fun x hx => (by cases hx), t, e, ?_⟩
      refine ⟨rfl, l[t], hx, ?_⟩
      rw [tAt_get hx] at hk
      simpa using hk
    | false =>
      rcases plain_oct hc hs with ⟨h2, e⟩ | ⟨h2, e⟩
      · rw [h2] at hb; cases hb
      · exact ⟨false, v.2.2.1, 0, hg, fun x hx => (by cases hx), e⟩
theorem noLab_start {l : List Term.D} {h : Int} {v : Value.D} {s : Subset.D} (hn : noLab l h v s = false) : startE l v = 0 ∧ subE h s = 0 := by
  unfold noLab at hn
  cases h1 : startE l v != 0 with
  | true => rw [h1] at hn; cases hn
  | false => rw [h1] at hn; exact ⟨by simpa using h1, by simpa using hn⟩
/-- What goes wrong comes with nothing. -/
theorem endW_bad {x : WS} (h : (endW x).2.2 ≠ 0) : (endW x).1 = zeroV ∧ (endW x).2.1 = [] := by
  unfold endW at h ⊢
  cases hx : x.2.2 != 0 with
  | true => exact ⟨rfl, rfl⟩
  | false => rw [hx] at h; exact absurd rfl h
theorem labelV_bad {l : List Term.D} {h : Int} {v : Value.D} {s : Subset.D} (he : (labelV l h v s).2.2 ≠ 0) : (labelV l h v s).1 = zeroV ∧ (labelV l h v s).2.1 = [] := by
  unfold labelV at he ⊢
  cases hn : noLab l h v s with
  | true => exact ⟨rfl, rfl⟩
  | false => rw [hn] at he; exact endW_bad he
theorem nodeV_bad {l : List Term.D} {h : Int} {v : Value.D} {n : Int} (he : (nodeV l h v n).2.2 ≠ 0) : (nodeV l h v n).1 = zeroV ∧ (nodeV l h v n).2.1 = [] := by
  unfold nodeV at he ⊢
  cases hn : noNode l h v n with
  | true => exact ⟨rfl, rfl⟩
  | false => rw [hn] at he; exact endW_bad he
/-- The least bit, as the law reckons it. -/
def lowB (j : Int) : Int := IntKind.i64.wrap (IntKind.u64.wrap (BitVec.ofInt 64 j &&& BitVec.ofInt 64 1).toNat)
theorem lowB_nat {j : Nat} (h : j < 2 ^ 64) : lowB j = ((j % 2 : Nat) : Int) := by
  unfold lowB
  have e : (BitVec.ofInt 64 (j : Int) &&& BitVec.ofInt 64 1).toNat = j % 2 := by
    rw [BitVec.toNat_and]
    have h1 : (BitVec.ofInt 64 (j : Int)).toNat = j := by
      rw [BitVec.toNat_ofInt]
      omega
    rw [h1, show (BitVec.ofInt 64 1).toNat = 1 by decide, Nat.and_one_is_mod]
  rw [e]
  have : j % 2 < 2 := Nat.mod_lt _ (by decide)
  rw [wrapU (by omega) (by omega), wrap64 (by omega) (by omega)]
/-- Up by one: the half, or nothing if that is I. -/
def upS (s : Subset.D) : Subset.D := bif Int.fdiv s.2 (2 ^ min (Int.toNat 1) IntKind.u64.bits) == s.1 then (s.1, 0) else (s.1, Int.fdiv s.2 (2 ^ min (Int.toNat 1) IntKind.u64.bits))
theorem half_nat (j : Nat) : Int.fdiv (j : Int) (2 ^ min (Int.toNat 1) IntKind.u64.bits) = ((j / 2 : Nat) : Int) := by
  show Int.fdiv (j : Int) 2 = _
  rw [Int.fdiv_eq_ediv_of_nonneg _ (by decide)]; rfl
theorem labP_up {h : Int} {s : Subset.D} (h1 : IntKind.u64.has s.1) (h2 : IntKind.u64.has s.2) (hs : subE h s = 0) (hz : s.2 ≠ 0) :
    subE h (upS s) = 0 ∧ IntKind.u64.has (upS s).2 ∧ labP h s = labP h (upS s) ++ [lowB s.2] ∧ (0 ≤ lowB s.2 ∧ lowB s.2 ≤ 1) := by
  obtain ⟨a0, a1, a2⟩ := hasU h1
  obtain ⟨b0, b1, b2⟩ := hasU h2
  obtain ⟨i, hi⟩ : ∃ i, i = s.1.toNat := ⟨_, rfl⟩
  obtain ⟨j, hj⟩ : ∃ j, j = s.2.toNat := ⟨_, rfl⟩
  have hok : okS h.toNat i j = true := by
    rw [subE_nat h1 h2, ← hi, ← hj] at hs
    cases ho : okS h.toNat i j with
    | true => rfl
    | false => rw [ho] at hs; cases hs
  rw [← hi] at a1 a2
  rw [← hj] at b1 b2
  have j0 : j ≠ 0 := fun e => hz (by rw [b2, e]; rfl)
  obtain ⟨k1, k2⟩ := okS_iff.1 hok
  obtain ⟨j1, j2, j3⟩ := k2.resolve_left j0
  obtain ⟨o1, o2, o3, o4⟩ := okN_iff.1 k1
  obtain ⟨_, _, p3, p4⟩ := okN_iff.1 j1
  obtain ⟨v1, v2⟩ := abv_iff.1 j2
  have i0 : i ≠ 0 := by omega
  have hlt : i.log2 < j.log2 := by
    rcases Nat.lt_or_ge i.log2 j.log2 with h' | h'
    · exact h'
    · rw [show j.log2 - i.log2 = 0 by omega, Nat.pow_zero, Nat.div_one] at v2
      exact absurd v2.symm j3
  have hjl : 1 ≤ j.log2 := by omega
  have hd := log2_div (n := j) (k := 1) j0 hjl
  have hdp := div_pos (n := j) (k := 1) j0 hjl
  rw [Nat.pow_one] at hd hdp
  have hJ : okN h.toNat (j / 2) = true := okN_iff.2 ⟨o1, o2, by omega, by omega⟩
  have hA : abv i (j / 2) = true := abv_iff.2 ⟨by omega, by
    rw [hd, show j / 2 / 2 ^ (j.log2 - 1 - i.log2) = j / 2 ^ (1 + (j.log2 - 1 - i.log2)) by rw [← div_div_pow, Nat.pow_one], show 1 + (j.log2 - 1 - i.log2) = j.log2 - i.log2 by omega]; exact v2⟩
  have hup : upS s = (bif ((j / 2 : Nat) : Int) == (i : Int) then ((i : Int), 0) else ((i : Int), ((j / 2 : Nat) : Int))) := by
    unfold upS; rw [b2, a2, half_nat]
  have hlow : lowB s.2 = ((j % 2 : Nat) : Int) := by rw [b2]; exact lowB_nat b1
  have h0 : ((h.toNat : Nat) : Int) = h := by omega
  have hm : j % 2 < 2 := Nat.mod_lt _ (by decide)
  refine ⟨?_, ?_, ?_, by rw [hlow]; omega⟩
  · have hu1 : IntKind.u64.has (upS s).1 := by
      rw [hup]; cases ((j / 2 : Nat) : Int) == (i : Int) <;> exact a2 ▸ h1
    have hu2 : IntKind.u64.has (upS s).2 := by
      rw [hup]
      cases ((j / 2 : Nat) : Int) == (i : Int) with
      | true => show IntKind.u64.has 0; exact ⟨by decide, by decide⟩
      | false =>
        have : IntKind.u64.max = 18446744073709551615 := by decide
        exact ⟨by show (0 : Int) ≤ _; simp only [cond_false]; omega, by rw [this]; simp only [cond_false]; omega⟩
    rw [subE_nat hu1 hu2, hup]
    cases hc : ((j / 2 : Nat) : Int) == (i : Int) with
    | true =>
      simp only [cond_true, Int.toNat_natCast]
      rw [show Int.toNat 0 = 0 from rfl, okS_iff.2 ⟨k1, .inl rfl⟩]; rfl
    | false =>
      simp only [cond_false, Int.toNat_natCast]
      rw [okS_iff.2 ⟨k1, .inr ⟨hJ, hA, fun e => by rw [e] at hc; simp at hc⟩⟩]; rfl
  · rw [hup]
    cases ((j / 2 : Nat) : Int) == (i : Int) with
    | true => show IntKind.u64.has 0; exact ⟨by decide, by decide⟩
    | false =>
      have : IntKind.u64.max = 18446744073709551615 := by decide
      exact ⟨by show (0 : Int) ≤ _; simp only [cond_false]; omega, by rw [this]; simp only [cond_false]; omega⟩
  · unfold labP
    have hz' : (s.2 != 0) = true := by simpa using hz
    have e1 := path_nat k1 j1 j2
    rw [h0, ← a2, ← b2] at e1
    rw [hz', cond_true, e1, hlow, hup]
    have split : ((List.range (j.log2 - i.log2)).map fun m => ((j / 2 ^ (j.log2 - i.log2 - 1 - m) % 2 : Nat) : Int)) = ((List.range (j.log2 - i.log2 - 1)).map fun m => ((j / 2 ^ (j.log2 - i.log2 - 1 - m) % 2 : Nat) : Int)) ++ [((j % 2 : Nat) : Int)] := by
      rw [show j.log2 - i.log2 = (j.log2 - i.log2 - 1) + 1 by omega, List.range_succ, List.map_append, List.map_singleton]
      simp
    rw [split]
    cases hc : ((j / 2 : Nat) : Int) == (i : Int) with
    | true =>
      have hc' : j / 2 = i := by have := eq_of_beq hc; omega
      simp only [cond_true]
      rw [a2, show ((0 : Int) != 0) = false by decide, show j.log2 - i.log2 - 1 = 0 by rw [← hc', hd]; omega]
      simp
    | false =>
      simp only [cond_false]
      have e2 := path_nat k1 hJ hA
      rw [h0] at e2
      rw [show (((j / 2 : Nat) : Int) != 0) = true by simp; omega, cond_true, e2, a2, hd, show j.log2 - 1 - i.log2 = j.log2 - i.log2 - 1 by omega]
      simp only [List.append_assoc]
      congr 3
      refine List.map_congr_left fun m hm' => ?_
      have hmlt : m < j.log2 - i.log2 - 1 := List.mem_range.1 hm'
      congr 2
      have := div_div_pow j 1 (j.log2 - i.log2 - 1 - 1 - m)
      rw [Nat.pow_one] at this
      rw [this]
      congr 2
      omega
end Go.AM.Seat
