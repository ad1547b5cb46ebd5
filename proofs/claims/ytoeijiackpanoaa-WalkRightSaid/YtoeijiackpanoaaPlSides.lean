/- Plain: the pair that leads to a subset's key. -/
import Derived.Test.YtoeijiackpanoaaSeSides
import Derived.Test.YtoeijiackpanoaaPlNode2
set_option linter.unusedVariables false
namespace Go.AM.Seat
open Go Go.AM Go.Proofs

theorem idxS_at {s : Subset.D} : ∀ {l : List Subset.D} {i : Int}, 0 ≤ i → ¬ idxS s l i < 0 → i ≤ idxS s l i ∧ idxS s l i < i + l.length ∧ l.getD (idxS s l i - i).toNat (0, 0) = s := by
  intro l
  induction l with
  | nil => intro i hi h; exact absurd (show (-1 : Int) < 0 by decide) h
  | cons x l ih =>
    intro i hi h
    simp only [idxS] at h ⊢
    cases hx : s.1 == x.1 && s.2 == x.2 with
    | true =>
      simp only [Bool.and_eq_true, beq_iff_eq] at hx
      simp only [cond_true]
      refine ⟨Int.le_refl i, by simp only [List.length_cons]; omega, ?_⟩
      rw [show (i - i).toNat = 0 by omega]
      exact Prod.ext hx.1.symm hx.2.symm
    | false =>
      rw [hx] at h
      simp only [cond_false] at h ⊢
      obtain ⟨h1, h2, h3⟩ := ih (show 0 ≤ i + 1 by omega) h
      refine ⟨by omega, by simp only [List.length_cons]; omega, ?_⟩
      rw [show (idxS s l (i + 1) - i).toNat = (idxS s l (i + 1) - (i + 1)).toNat + 1 by omega]
      exact h3
theorem idxS_ok {s : Subset.D} {l : List Subset.D} (h : ¬ idxS s l 0 < 0) : 0 ≤ idxS s l 0 ∧ idxS s l 0 < l.length ∧ sAt l (idxS s l 0) = s ∧ s ∈ l := by
  obtain ⟨h1, h2, h3⟩ := idxS_at (Int.le_refl 0) h
  rw [Int.sub_zero] at h3
  refine ⟨h1, by omega, h3, ?_⟩
  rw [← h3, List.getD_eq_getElem?_getD, List.getElem?_eq_getElem (show (idxS s l 0).toNat < l.length by omega)]
  exact List.getElem_mem _

theorem inG_mem {h k leaf : Int} {t : Nat} {x : Subset.D} : ∀ {m d : Nat} {out : List Subset.D}, x ∈ inG h k leaf t m d out → x ∈ out ∨ ∃ d', d ≤ d' ∧ d' < d + m ∧ x = prP h leaf t d' := by
  intro m
  induction m with
  | zero => intro d out hx; exact .inl hx
  | succ m ih =>
    intro d out hx
    rcases ih hx with h1 | ⟨d', a, b, c⟩
    · cases hk : keepB h k (prP h leaf t d) with
      | false => rw [hk] at h1; exact .inl h1
      | true =>
        rw [hk] at h1
        rcases List.mem_append.1 h1 with h1 | h1
        · exact .inl h1
        · exact .inr ⟨d, Nat.le_refl d, by omega, List.mem_singleton.1 h1⟩
    · exact .inr ⟨d', by omega, by omega, c⟩
theorem outG_mem {h k leaf : Int} {x : Subset.D} : ∀ {m t : Nat} {out : List Subset.D}, t + m = h.toNat → x ∈ outG h k leaf m t out → x ∈ out ∨ ∃ t' d : Nat, t' < d ∧ d ≤ h.toNat ∧ x = prP h leaf t' d := by
  intro m
  induction m with
  | zero => intro t out _ hx; exact .inl hx
  | succ m ih =>
    intro t out ht hx
    rcases ih (by omega) hx with h1 | h1
    · rcases inG_mem h1 with h1 | ⟨d, a, b, c⟩
      · exact .inl h1
      · exact .inr ⟨t, d, by omega, by omega, c⟩
    · exact .inr h1
theorem xor_nat {a : Nat} (ha : a < 2 ^ 64) : xorI a 1 = ((a ^^^ 1 : Nat) : Int) := by
  unfold xorI
  have e1 : (BitVec.ofInt 64 (a : Int)).toNat = a := by rw [BitVec.toNat_ofInt]; omega
  have e2 : (BitVec.ofInt 64 (1 : Int)).toNat = 1 := by decide
  rw [BitVec.toNat_xor, e1, e2, wrapU]
  · omega
  · have := Nat.xor_lt_two_pow ha (show 1 < 2 ^ 64 by decide); omega
theorem leafN_lt {h i : Nat} (h2 : h ≤ 32) (hi : i < 2 ^ h) : leafN h i < 2 ^ 34 := by
  have := pow32 h2
  unfold leafN; omega
theorem prP_nat {H i t d : Nat} (h2 : H ≤ 32) (hi : i < 2 ^ H) (ht : t < d) (hd : d ≤ H) :
    prP (H : Int) ((leafN H i : Nat) : Int) t d = (((leafN H i / 2 ^ (H - t) : Nat) : Int), (((leafN H i / 2 ^ (H - d)) ^^^ 1 : Nat) : Int)) := by
  have hl := leafN_lt h2 hi
  have e1 : (H : Int) - (t : Int) = ((H - t : Nat) : Int) := by omega
  have e2 : (H : Int) - (d : Int) = ((H - d : Nat) : Int) := by omega
  unfold prP
  rw [e1, e2, shr_nat (by omega) (by omega), shr_nat (by omega) (by omega), Int.toNat_natCast, Int.toNat_natCast, Int.toNat_natCast, xor_nat (Nat.lt_of_le_of_lt (Nat.div_le_self _ _) (by omega))]
/-- A pair of a leaf's that is below some node has the leaf. -/
theorem pairs_has {h k i : Int} {p : Subset.D} (hi : IntKind.u64.has i) (hn : noPr h k i = false) (hk : k ≠ 1) (hp : p ∈ (pairsL h k i).1) (h0 : p.2 ≠ 0) : hasI h p i = (true, 0) := by
  obtain ⟨n1, n2⟩ := noPr_ok hn
  obtain ⟨m1, m2, _, _, _⟩ := many_ok n1
  obtain ⟨c0, c1, c2⟩ := hasU hi
  have hl : leafOk h.toNat i.toNat = true := by
    rw [← leaf_err c0 c1]
    unfold bne at n2
    simpa using n2
  obtain ⟨l1, l2, l3⟩ := leafOk_iff.1 hl
  have el : (leafI h i).1 = ((leafN h.toNat i.toNat : Nat) : Int) := by
    rw [leaf_nat c0 c1]; unfold leafV
    rw [decide_eq_true l1, decide_eq_true l2, decide_eq_true l3]; rfl
  obtain ⟨H, rfl⟩ := Int.eq_ofNat_of_zero_le (show 0 ≤ h by omega)
  rw [Int.toNat_natCast] at l1 l2 l3 el hl
  unfold pairsL at hp
  rw [hn, show (k == 1) = false by simpa using hk] at hp
  simp only [cond_false] at hp
  rcases outG_mem (by omega) hp with h1 | ⟨t, d, ht, hd, rfl⟩
  · rw [List.mem_singleton] at h1
    rw [h1] at h0
    exact absurd rfl h0
  · rw [Int.toNat_natCast] at hd
    rw [el, prP_nat l2 l3 ht hd]
    obtain ⟨q1, q2⟩ := pair_has l1 l2 l3 ht hd
    have hb := leafN_lt l2 l3
    have b1 : leafN H i.toNat / 2 ^ (H - t) < 2 ^ 64 := Nat.lt_of_le_of_lt (Nat.div_le_self _ _) (by omega)
    have b2 : (leafN H i.toNat / 2 ^ (H - d)) ^^^ 1 < 2 ^ 64 := Nat.xor_lt_two_pow (Nat.lt_of_le_of_lt (Nat.div_le_self _ _) (by omega)) (by decide)
    have u : ∀ {n : Nat}, n < 2 ^ 64 → IntKind.u64.has (n : Int) := fun {n} hn => ⟨by show (0 : Int) ≤ n; omega, by show (n : Int) ≤ 18446744073709551615; omega⟩
    rw [has_nat (s := (_, _)) (u b1) (u b2) hi]
    simp only [Int.toNat_natCast]
    rw [q1, q2, hl]; rfl

theorem atI_ok {l : List Subset.D} {s : Subset.D} {x : List Int} (h : (atI l s x).2.2 = 0) : ¬ idxS s l 0 < 0 ∧ atI l s x = (idxS s l 0, x, 0) := by
  unfold atI at h ⊢
  cases hd : decide (idxS s l 0 < 0) with
  | true => rw [hd] at h; cases h
  | false => exact ⟨of_decide_eq_false hd, rfl⟩
theorem atI_err {l : List Subset.D} {s : Subset.D} {x : List Int} (h : (atI l s x).2.2 ≠ 0) : (atI l s x).2.1 = [] := by
  unfold atI at h ⊢
  cases hd : decide (idxS s l 0 < 0) with
  | true => rfl
  | false => rw [hd] at h; exact absurd rfl h
theorem entry_err {h k i : Int} {s : Subset.D} (he : (entryI h k i s).2.2 ≠ 0) : (entryI h k i s).2.1 = [] := by
  unfold entryI at he ⊢
  cases h1 : noEn h k i s with
  | true => rfl
  | false =>
    cases h2 : (hasI h s i).2 != 0 with
    | true => rfl
    | false =>
      cases h3 : (hasI h s i).1 with
      | false => rfl
      | true =>
        rw [h1, h2, h3] at he
        cases h4 : s.2 != 0 with
        | false => rw [h4] at he; exact atI_err he
        | true =>
          rw [h4] at he
          cases h5 : (besI h (leafI h i).1 s.2).2 != 0 with
          | true => rfl
          | false =>
            rw [h5] at he
            cases h6 : (pathI h (fromJ h i s) s.2).2 != 0 with
            | true => rfl
            | false => rw [h6] at he; exact atI_err he
theorem ne_of {a : Int} (h : (a != 0) = true) : a ≠ 0 := by simpa using h
theorem entry_ok {h k i : Int} {s : Subset.D} (he : (entryI h k i s).2.2 = 0) : noEn h k i s = false ∧ (hasI h s i).1 = true ∧
    ((s.2 = 0 ∧ ¬ idxS s (pairsL h k i).1 0 < 0 ∧ entryI h k i s = (idxS s (pairsL h k i).1 0, [], 0)) ∨
     (s.2 ≠ 0 ∧ (besI h (leafI h i).1 s.2).2 = 0 ∧ (pathI h (fromJ h i s) s.2).2 = 0 ∧ ¬ idxS (s.1, fromJ h i s) (pairsL h k i).1 0 < 0 ∧ entryI h k i s = (idxS (s.1, fromJ h i s) (pairsL h k i).1 0, (pathI h (fromJ h i s) s.2).1, 0))) := by
  unfold entryI at he ⊢
  cases h1 : noEn h k i s with
  | true => rw [h1] at he; cases he
  | false =>
    cases h2 : (hasI h s i).2 != 0 with
    | true => rw [h1, h2] at he; exact absurd he (ne_of h2)
    | false =>
      cases h3 : (hasI h s i).1 with
      | false => rw [h1, h2, h3] at he; cases he
      | true =>
        rw [h1, h2, h3] at he
        refine ⟨rfl, rfl, ?_⟩
        cases h4 : s.2 != 0 with
        | false =>
          rw [h4] at he
          obtain ⟨a, b⟩ := atI_ok he
          exact .inl ⟨by simpa using h4, a, b⟩
        | true =>
          rw [h4] at he
          cases h5 : (besI h (leafI h i).1 s.2).2 != 0 with
          | true => rw [h5] at he; exact absurd he (ne_of h5)
          | false =>
            rw [h5] at he
            cases h6 : (pathI h (fromJ h i s) s.2).2 != 0 with
            | true => rw [h6] at he; exact absurd he (ne_of h6)
            | false =>
              rw [h6] at he
              obtain ⟨a, b⟩ := atI_ok he
              exact .inr ⟨ne_of h4, by simpa using h5, by simpa using h6, a, b⟩
theorem noEn_ok {h k i : Int} {s : Subset.D} (e : noEn h k i s = false) : (pairsL h k i).2 = 0 ∧ noPr h k i = false ∧ mayI h k s = (true, 0) := by
  unfold noEn at e
  cases h1 : (pairsL h k i).2 != 0 with
  | true => rw [h1] at e; cases e
  | false =>
    cases h2 : (leafI h i).2 != 0 with
    | true => rw [h1, h2] at e; cases e
    | false =>
      cases h3 : (mayI h k s).2 != 0 with
      | true => rw [h1, h2, h3] at e; cases e
      | false =>
        rw [h1, h2, h3] at e
        have h1' : (pairsL h k i).2 = 0 := by simpa using h1
        refine ⟨h1', ?_, Prod.ext (by simpa using e) (by simpa using h3)⟩
        cases hn : noPr h k i with
        | false => rfl
        | true => unfold pairsL at h1'; rw [hn] at h1'; cases h1'
theorem may_whole {h : Int} {s : Subset.D} (e : mayI h 1 s = (true, 0)) : s.2 = 0 := by
  unfold mayI at e
  cases hm : mayB3 h 1 s with
  | true => rw [hm] at e; cases e
  | false => rw [hm] at e; simpa using congrArg Prod.fst e
theorem path_ne {h b : Int} : (pathI h 0 b).2 ≠ 0 := by
  unfold pathI bothI both
  have : (chkI h 0 != 0) = true := by
    unfold chkI badN
    cases highB h <;> rfl
  rw [this]; exact (by decide : (1 : Int) ≠ 0)
/-- THE LAW. -/
theorem sides_true (h k i : Int) (s : Subset.D) (hi : IntKind.u64.has i) : sides1 h k i s (entryI h k i s) (pairsL h k i).1 = oB true := by
  unfold sides1
  by_cases he : (entryI h k i s).2.2 = 0
  · obtain ⟨n1, n2, n3⟩ := entry_ok he
    obtain ⟨p1, p2, p3⟩ := noEn_ok n1
    rw [show ((entryI h k i s).2.2 != 0) = false by simp [he], show ((pairsL h k i).2 != 0) = false by simp [p1]]
    simp only [cond_false]
    rcases n3 with ⟨s0, m1, m2⟩ | ⟨s0, b0, m0, m1, m2⟩
    · obtain ⟨q1, q2, q3, q4⟩ := idxS_ok m1
      rw [m2]
      simp only
      rw [decide_eq_false (show ¬ idxS s (pairsL h k i).1 0 < 0 from m1), decide_eq_false (show ¬ idxS s (pairsL h k i).1 0 ≥ ((pairsL h k i).1.length : Int) by omega)]
      simp only [cond_false]
      unfold sides2
      have hb : inB (idxS s (pairsL h k i).1 0) (pairsL h k i).1.length = true := by simp only [inB, Bool.and_eq_true, decide_eq_true_eq]; exact ⟨q1, q2⟩
      simp only [q3, hb, cond_true]
      rw [show (s.1 != s.1) = false from bne_self_eq_false s.1, show (s.2 == 0) = true by rw [s0]; rfl, show (s.1 == s.1 && s.2 == s.2) = true by simp]
      rfl
    · obtain ⟨q1, q2, q3, q4⟩ := idxS_ok m1
      rw [m2]
      simp only
      rw [decide_eq_false (show ¬ idxS (s.1, fromJ h i s) (pairsL h k i).1 0 < 0 from m1), decide_eq_false (show ¬ idxS (s.1, fromJ h i s) (pairsL h k i).1 0 ≥ ((pairsL h k i).1.length : Int) by omega)]
      simp only [cond_false]
      unfold sides2
      have hb : inB (idxS (s.1, fromJ h i s) (pairsL h k i).1 0) (pairsL h k i).1.length = true := by simp only [inB, Bool.and_eq_true, decide_eq_true_eq]; exact ⟨q1, q2⟩
      simp only [q3, hb, cond_true]
      have hk : k ≠ 1 := by
        rintro rfl
        exact s0 (may_whole p3)
      have hf : fromJ h i s ≠ 0 := by
        intro h0
        rw [h0] at m0
        exact path_ne m0
      have hh := pairs_has hi p2 hk q4 hf
      rw [show (s.1 != s.1) = false from bne_self_eq_false s.1, show (s.2 == 0) = false by simpa using s0]
      simp only [cond_false]
      unfold sides3
      rw [hh, m0]
      simp only [beq_self_eq_true, cond_true]
      rw [show sameI (pathI h (fromJ h i s) s.2).1 (pathI h (fromJ h i s) s.2).1 = true from decide_eq_true rfl]
  · rw [show ((entryI h k i s).2.2 != 0) = true by simpa using he, entry_err he]
    rfl
theorem good303 (x : ADen [.v I, .v I, .v U, .v Subset]) : Good Try.prog N303 (encA [.v I, .v I, .v U, .v Subset] x) (.one (.bool true)) := by
  have g : GoodS Try.prog N303 (.fn [.v I, .v I, .v U, .v Subset] fun _ => (true, .one (.bool true))) := by
    refine good Γ303ok H303 rfl (by kernel_rfl) noL [] (noLoops (by kernel_rfl)) [.v I, .v I, .v U, .v Subset] (by decide) [] _ fun x r hw h => ?_
    obtain ⟨h', k, i, s⟩ := x
    cases h
    exact (r303 h' k i s).trans (sides_true h' k i s hw.2.2.1)
  exact g.2.1 _ _ (by kernel_rfl)
end Go.AM.Seat
