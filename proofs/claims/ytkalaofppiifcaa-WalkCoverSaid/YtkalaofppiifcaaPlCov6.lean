/- Plain: a chain in useful parts. -/
import Derived.Test.YtkalaofppiifcaaPlCov5
set_option linter.unusedVariables false
set_option maxRecDepth 100000
namespace Go.AM.Seat
open Go Go.AM Go.Proofs

/-- What of a chain comes: itself, or two. -/
def splitI (h : Int) (s : Subset.D) : List Subset.D × Int := bif (useI h s).2 != 0 then ([], (useI h s).2) else bif (bif (useI h s).1 then true else s.2 == 0) then ([s], 0) else
  ([(s.1, (upI h s.2 (nxI (depthI h s.1).1 (stepI h).1 h)).1), ((upI h s.2 (nxI (depthI h s.1).1 (stepI h).1 h)).1, s.2)], (upI h s.2 (nxI (depthI h s.1).1 (stepI h).1 h)).2)
theorem nx_nat {i st H : Nat} (hst : 1 ≤ st) (hst6 : st ≤ 6) (hi : i ≤ 64) : nxI (i : Int) (st : Int) (H : Int) = ((min ((i / st + 1) * st) H : Nat) : Int) := by
  unfold nxI
  have e0 : (i : Int).tdiv (st : Int) = ((i / st : Nat) : Int) := rfl
  have hb : i / st ≤ i := Nat.div_le_self _ _
  have hb0 : (0 : Int) ≤ ((i / st : Nat) : Int) := Int.natCast_nonneg _
  have hb1 : ((i / st : Nat) : Int) ≤ 64 := Int.ofNat_le.2 (Nat.le_trans hb hi)
  have hm : (i / st + 1) * st ≤ 65 * 6 := Nat.mul_le_mul (by omega) hst6
  rw [e0, wrap64 (n := ((i / st : Nat) : Int)) (by omega) (by omega), wrap64 (n := ((i / st : Nat) : Int) + 1) (by omega) (by omega), show ((i / st : Nat) : Int) + 1 = ((i / st + 1 : Nat) : Int) by omega, ← Int.natCast_mul, wrap64 (n := (((i / st + 1) * st : Nat) : Int)) (by omega) (by omega)]
  unfold minI
  split <;> omega
theorem sp_nat {i st H : Nat} : spB (i : Int) (st : Int) (H : Int) = (i % st == 0 || i == H) := by
  unfold spB
  rw [show (i : Int).tmod (st : Int) = ((i % st : Nat) : Int) from rfl]
  rw [show (((i % st : Nat) : Int) == 0) = (i % st == 0) by apply Bool.eq_iff_iff.2; simp only [beq_iff_eq]; exact ⟨fun h => Int.ofNat.inj h, fun h => by rw [h]; rfl⟩, show ((i : Int) == (H : Int)) = (i == H) by apply Bool.eq_iff_iff.2; simp only [beq_iff_eq]; omega]
  cases i % st == 0 <;> rfl
theorem use_nat {a : Int} {H I J : Nat} (ha : a = (H : Int)) (hs : okS H I J = true) (hJ : J ≠ 0) : ∃ st : Nat, 1 ≤ st ∧ st ≤ 6 ∧ (stepI a).1 = (st : Int) ∧ (depthI a (I : Int)).1 = (I.log2 : Int) ∧ subE a ((I : Int), (J : Int)) = 0 ∧
    useI a ((I : Int), (J : Int)) = ((I.log2 % st == 0 || I.log2 == H) || decide (J.log2 ≤ min ((I.log2 / st + 1) * st) H), 0) := by
  obtain ⟨k1, k2⟩ := okS_iff.1 hs
  obtain ⟨j1, j2, j3⟩ := k2.resolve_left hJ
  obtain ⟨h1, h2, h3, h4⟩ := okN_iff.1 k1
  obtain ⟨_, _, g3, g4⟩ := okN_iff.1 j1
  have hp := pow32 h2
  have hp1 : 2 ^ (H + 1) = 2 * 2 ^ H := by rw [Nat.pow_succ]; omega
  have hIl := (okN_log (h := H) (n := I) (by omega)).1 h4
  have u : ∀ {n : Nat}, n < 2 ^ 64 → IntKind.u64.has (n : Int) := fun {n} hn => ⟨by show (0 : Int) ≤ n; omega, by show (n : Int) ≤ 18446744073709551615; omega⟩
  have hsub : subE a ((I : Int), (J : Int)) = 0 := by
    rw [subE_nat (u (by omega)) (u (by omega)), ha]
    simp only [Int.toNat_natCast]
    rw [hs]; rfl
  have hdep : ∀ {n : Nat}, okN H n = true → depthI a (n : Int) = ((n.log2 : Int), 0) := fun {n} hn => by
    have := okN_ne hn
    unfold depthI
    rw [show (chkI a (n : Int) != 0) = false by rw [chk_ne (by omega), ha, Int.toNat_natCast, Int.toNat_natCast, hn]; rfl, dep_nat (by omega), Int.toNat_natCast]; rfl
  have hst : stepI a = (stepN a, 0) := by
    unfold stepI
    rw [show (chkI a 1 != 0) = false by
      rw [chk_ne (by decide), ha, Int.toNat_natCast, show (1 : Int).toNat = 1 from rfl, okN_one, decide_eq_true h1, decide_eq_true h2]; rfl]; rfl
  obtain ⟨q1, q2⟩ := stepN_pos a
  obtain ⟨st, hst'⟩ : ∃ st : Nat, stepN a = (st : Int) := ⟨(stepN a).toNat, by omega⟩
  refine ⟨st, by omega, by omega, by rw [hst]; exact hst', by rw [hdep k1], hsub, ?_⟩
  unfold useI useB depJ depE depB
  rw [hsub, hst, hdep k1, hdep j1, hst']
  have hJ' : ((J : Int) != 0) = true := by simp; omega
  simp only [bne_self_eq_false, cond_false, beq_self_eq_true, cond_true, hJ']
  rw [show ((J : Int) == 0) = false by simp; omega]
  simp only [cond_false, cond_true, beq_self_eq_true]
  rw [ha, sp_nat, nx_nat (by omega) (by omega) (by omega)]
  have e : decide ((J.log2 : Int) ≤ ((min ((I.log2 / st + 1) * st) H : Nat) : Int)) = decide (J.log2 ≤ min ((I.log2 / st + 1) * st) H) := by
    apply Bool.eq_iff_iff.2; simp only [decide_eq_true_eq]; omega
  rw [e]
  cases (I.log2 % st == 0 || I.log2 == H) <;> rfl
/-- THE PARTS of a chain: chains that are useful; each leaf in it is in just one. -/
theorem split_law {a : Int} {H I J : Nat} (ha : a = (H : Int)) (hs : okS H I J = true) (hJ : J ≠ 0) : ∃ c : List (Nat × Nat), splitI a ((I : Int), (J : Int)) = (c.map (fun s => ((s.1 : Int), (s.2 : Int))), 0) ∧ c.length ≤ 2 ∧
    (∀ s ∈ c, okS H s.1 s.2 = true ∧ s.2 ≠ 0 ∧ useI a ((s.1 : Int), (s.2 : Int)) = (true, 0)) ∧ ∀ i, cntN H c i = (hasN H I J i).toNat := by
  obtain ⟨st, s1, s2, e1, e2, e3, e4⟩ := use_nat ha hs hJ
  obtain ⟨k1, k2⟩ := okS_iff.1 hs
  obtain ⟨j1, j2, j3⟩ := k2.resolve_left hJ
  obtain ⟨h1, h2, h3, h4⟩ := okN_iff.1 k1
  obtain ⟨_, _, g3, g4⟩ := okN_iff.1 j1
  have hIl := (okN_log (h := H) (n := I) (by omega)).1 h4
  have hJl := (okN_log (h := H) (n := J) (by omega)).1 g4
  have hp := pow32 h2
  have hp1 : 2 ^ (H + 1) = 2 * 2 ^ H := by rw [Nat.pow_succ]; omega
  cases hu : ((I.log2 % st == 0 || I.log2 == H) || decide (J.log2 ≤ min ((I.log2 / st + 1) * st) H)) with
  | true =>
    rw [hu] at e4
    refine ⟨[(I, J)], ?_, by simp, fun s hs' => ?_, fun i => ?_⟩
    · unfold splitI; rw [e4]; rfl
    · rw [List.mem_singleton.1 hs']; exact ⟨hs, hJ, e4⟩
    · unfold cntN
      rw [List.countP_cons, List.countP_nil]
      cases hasN H I J i <;> rfl
  | false =>
    rw [hu] at e4
    rw [Bool.or_eq_false_iff, Bool.or_eq_false_iff] at hu
    obtain ⟨⟨u1, u2⟩, u3⟩ := hu
    have u1 : I.log2 % st ≠ 0 := by simpa using u1
    have u2 : I.log2 ≠ H := by simpa using u2
    have u3 := of_decide_eq_false u3
    have hgt : I.log2 < (I.log2 / st + 1) * st := by
      rw [Nat.add_mul, Nat.one_mul]
      have h8 := Nat.div_add_mod I.log2 st
      have h9 := Nat.mod_lt I.log2 (show 0 < st by omega)
      rw [Nat.mul_comm] at h8
      omega
    have hnx : nxI (depthI a (I : Int)).1 (stepI a).1 a = ((min ((I.log2 / st + 1) * st) H : Nat) : Int) := by rw [e2, e1, ha]; exact nx_nat s1 s2 (by omega)
    have hsp : min ((I.log2 / st + 1) * st) H % st = 0 ∨ min ((I.log2 / st + 1) * st) H = H := by
      rcases Nat.le_total ((I.log2 / st + 1) * st) H with h | h
      · left; rw [Nat.min_eq_left h, Nat.mul_mod_left]
      · right; exact Nat.min_eq_right h
    have hlt : I.log2 < min ((I.log2 / st + 1) * st) H := by omega
    have hmx : min ((I.log2 / st + 1) * st) H ≤ H := Nat.min_le_right _ _
    generalize hN : min ((I.log2 / st + 1) * st) H = N at *
    have hJ0 : J ≠ 0 := hJ
    have hkl : (upN J N).log2 = N := upN_log hJ0 (by omega)
    have hk0 : upN J N ≠ 0 := upN_ne hJ0
    have hkJ : abv (upN J N) J = true := upN_abv hJ0 (by omega)
    have hIk : abv I (upN J N) = true := abv_comp hJ0 j2 hkJ (by omega)
    have hkN : okN H (upN J N) = true := okN_iff.2 ⟨h1, h2, Nat.pos_of_ne_zero hk0, (okN_log hk0).2 (by omega)⟩
    have hup : upI a (J : Int) (N : Int) = (((upN J N : Nat) : Int), 0) := by
      unfold upI outUp
      rw [show (chkI a (J : Int) != 0) = false by rw [chk_ne (by omega), ha, Int.toNat_natCast, Int.toNat_natCast, j1]; rfl, dep_nat (by omega), Int.toNat_natCast, decide_eq_false (show ¬ (N : Int) < 0 by omega), decide_eq_false (show ¬ (N : Int) > (J.log2 : Int) by omega)]
      simp only [cond_false]
      rw [show (J.log2 : Int) - (N : Int) = ((J.log2 - N : Nat) : Int) by omega, shr_nat (by omega) (by omega), Int.toNat_natCast, Int.toNat_natCast]; rfl
    have o1 : okS H I (upN J N) = true := okS_iff.2 ⟨k1, .inr ⟨hkN, hIk, fun e => by have := congrArg Nat.log2 e; omega⟩⟩
    have o2 : okS H (upN J N) J = true := okS_iff.2 ⟨hkN, .inr ⟨j1, hkJ, fun e => by have := congrArg Nat.log2 e; omega⟩⟩
    refine ⟨[(I, upN J N), (upN J N, J)], ?_, by simp, fun s hs' => ?_, fun i => ?_⟩
    · unfold splitI
      rw [e4]
      simp only [bne_self_eq_false, cond_false]
      rw [hnx, hup, show ((J : Int) == 0) = false by simp; omega]
      rfl
    · rcases List.mem_cons.1 hs' with rfl | hs'
      · refine ⟨o1, hk0, ?_⟩
        obtain ⟨st', t1, t2, f1, f2, f3, f4⟩ := use_nat ha o1 hk0
        obtain rfl : st' = st := by rw [e1] at f1; omega
        rw [f4, hkl, hN, decide_eq_true (Nat.le_refl N), Bool.or_true]
      · rw [List.mem_singleton.1 hs']
        refine ⟨o2, hJ, ?_⟩
        obtain ⟨st', t1, t2, f1, f2, f3, f4⟩ := use_nat ha o2 hJ
        obtain rfl : st' = st := by rw [e1] at f1; omega
        rw [f4, hkl]
        rcases hsp with h | h
        · rw [h]; rfl
        · rw [show (N == H) = true by simpa using h, Bool.or_true, Bool.true_or]
    · unfold cntN
      rw [has_split hk0 hJ hIk hkJ, List.countP_cons, List.countP_cons, List.countP_nil]
      cases hasN H I (upN J N) i <;> cases hasN H (upN J N) J i <;> rfl
end Go.AM.Seat
