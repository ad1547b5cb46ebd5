/- Plain: what the definition's entry, and first one, are: the code's own; the law WalkDoes. -/
import Derived.Test.YtoeijiackpanoaaPlBeside
import Derived.Test.YtoeijiackpanoaaPlFirst
set_option linter.unusedVariables false
set_option maxRecDepth 100000
namespace Go.AM.Seat
open Go Go.AM Go.Proofs

theorem allK_congr {R : Nat → Option AV} {E : Option AV} {b b' : Nat → Bool} : ∀ {m j : Nat}, (∀ i, j ≤ i → i < j + m → b i = b' i) → allK R E b m j = allK R E b' m j := by
  intro m
  induction m with
  | zero => intro j _; rfl
  | succ m ih =>
    intro j h
    rw [allK, allK, h j (Nat.le_refl j) (by omega), ih fun i h1 h2 => h i (by omega) (by omega)]
theorem allK_idxP {R : Nat → Option AV} {E : Option AV} {p : Int × Int → Bool} (l : List (Int × Int)) : ∀ (m j : Nat), j + m = l.length →
    allK R E (fun j => p (sAt l j)) m j = bif decide (idxP p (l.drop j) j < 0) then E else R (idxP p (l.drop j) j).toNat := by
  intro m
  induction m with
  | zero =>
    intro j hj
    rw [List.drop_of_length_le (by omega)]; rfl
  | succ m ih =>
    intro j hj
    have h1 : j < l.length := by omega
    rw [allK, ih (j + 1) (by omega), sAt_drop h1]
    rcases Bool.eq_false_or_eq_true (p (sAt l j)) with hx | hx
    · simp only [idxP, hx, cond_true]
      rw [decide_eq_false (show ¬ (j : Int) < 0 by omega), Int.toNat_natCast]; rfl
    · simp only [idxP, hx, cond_false]; rfl
theorem allK_all {R : Nat → Option AV} {E : Option AV} {p : Int × Int → Bool} (l : List (Int × Int)) : allK R E (fun j => p (sAt l j)) (l.length : Int).toNat 0 = bif decide (idxP p l 0 < 0) then E else R (idxP p l 0).toNat := by
  rw [Int.toNat_natCast, allK_idxP l l.length 0 (by omega), List.drop_zero]; rfl
theorem idxS_P (s : Int × Int) : ∀ (l : List (Int × Int)) (i : Int), idxS s l i = idxP (fun x => s.1 == x.1 && s.2 == x.2) l i := by
  intro l
  induction l with
  | nil => intro i; rfl
  | cons x l ih => intro i; simp only [idxS, idxP, ih]
theorem idxP_congr {p q : Int × Int → Bool} : ∀ {l : List (Int × Int)} (i : Int), (∀ x ∈ l, p x = q x) → idxP p l i = idxP q l i := by
  intro l
  induction l with
  | nil => intro i _; rfl
  | cons x l ih =>
    intro i h
    simp only [idxP]
    rw [h x (by simp), ih (i + 1) fun y hy => h y (by simp [hy])]

/-- Which pair of a leaf's is hit: just the one beside. -/
theorem hit_beside {H x J t d : Nat} (a : LeafAt H x) (hJ : okN H J = true) (hn : abv J (leafN H x) = false) (ht : t < d) (hd : d ≤ H) {q : Nat} (q1 : 1 ≤ q) (q2 : q ≤ J.log2)
    (q3 : leafN H x / 2 ^ (H - J.log2) / 2 ^ q = J / 2 ^ q) (q4 : leafN H x / 2 ^ (H - J.log2) / 2 ^ (q - 1) ≠ J / 2 ^ (q - 1)) :
    abv ((leafN H x / 2 ^ (H - d)) ^^^ 1) J = (J / 2 ^ (q - 1) == (leafN H x / 2 ^ (H - d)) ^^^ 1) := by
  obtain ⟨_, _, j1, j2⟩ := okN_iff.1 hJ
  have hj0 : J ≠ 0 := by omega
  have hD := (okN_log (h := H) hj0).1 j2
  have hl := a.log
  have hL0 := leafN_ne (h := H) (i := x)
  generalize leafN H x = L at *
  have ld : (L / 2 ^ (H - d)).log2 = d := by rw [log2_div hL0 (by omega)]; omega
  have nd : L / 2 ^ (H - d) ≠ 0 := div_pos hL0 (by omega)
  have nd2 : 2 ≤ L / 2 ^ (H - d) := by
    have := log2_le nd
    rw [ld] at this
    have : 2 ^ 1 ≤ 2 ^ d := Nat.pow_le_pow_right (by decide) (by omega)
    omega
  have lx : ((L / 2 ^ (H - d)) ^^^ 1).log2 = d := by rw [xor_one_log2 nd2, ld]
  apply Bool.eq_iff_iff.2
  rw [abv_iff, beq_iff_eq, lx]
  constructor
  · rintro ⟨h1, h2⟩
    -- the depth is the one beside
    have ek : L / 2 ^ (H - J.log2) / 2 ^ (J.log2 - d) = L / 2 ^ (H - d) := by rw [div_div_pow]; congr 2; omega
    have n1 : L / 2 ^ (H - J.log2) / 2 ^ (J.log2 - d) ≠ J / 2 ^ (J.log2 - d) := by rw [ek, h2]; exact (xor_one _).2.symm
    have n2 : L / 2 ^ (H - J.log2) / 2 ^ (J.log2 - d + 1) = J / 2 ^ (J.log2 - d + 1) := by
      rw [← div_div_pow, ek, ← div_div_pow J, h2, Nat.pow_one, (xor_one _).1]
    have m1 := agree_iff.1 q3
    have m2 : ¬ _ := fun h => q4 (agree_iff.2 h)
    have m3 := agree_iff.1 n2
    have m4 : ¬ _ := fun h => n1 (agree_iff.2 h)
    have : J.log2 - d = q - 1 := by
      rcases Nat.lt_trichotomy (J.log2 - d) (q - 1) with h | h | h
      · exact absurd (Nat.lt_of_lt_of_le m3 (Nat.pow_le_pow_right (by decide) (by omega))) m2
      · exact h
      · exact absurd (Nat.lt_of_lt_of_le m1 (Nat.pow_le_pow_right (by decide) (by omega))) m4
    rw [← this]; exact h2
  · intro h
    have hlog : (J / 2 ^ (q - 1)).log2 = J.log2 - (q - 1) := log2_div hj0 (by omega)
    rw [h, lx] at hlog
    refine ⟨by omega, ?_⟩
    rw [show J.log2 - d = q - 1 by omega]; exact h

theorem ent_J {h k i : Int} {s : Int × Int} (h1 : IntKind.u64.has s.1) (h2 : IntKind.u64.has s.2) (hi : IntKind.u64.has i) (hn : noPr h k i = false) (hk : k ≠ 1) (hs : s.2 ≠ 0)
    (hok : okS h.toNat s.1.toNat s.2.toNat = true) (hh : hasN h.toNat s.1.toNat s.2.toNat i.toNat = true) :
    (besI h (leafI h i).1 s.2).2 = 0 ∧ (pathI h (fromJ h i s) s.2).2 = 0 ∧ ∀ y ∈ (pairsL h k i).1, hitB s y = (s.1 == y.1 && fromJ h i s == y.2) := by
  obtain ⟨n1, n2⟩ := noPr_ok hn
  obtain ⟨m1, m2, m3, _, _⟩ := many_ok n1
  obtain ⟨c0, c1, c2⟩ := hasU hi
  obtain ⟨b0, b1, b2⟩ := hasU h2
  have hlo : leafOk h.toNat i.toNat = true := by rw [leaf_ne c0 c1] at n2; simpa using n2
  obtain ⟨l1, l2, l3⟩ := leafOk_iff.1 hlo
  have el := leaf_val c0 c1 hlo
  obtain ⟨I, J⟩ := s
  simp only at h1 h2 hs hok hh b0 b1 b2 ⊢
  have hJ0 : J.toNat ≠ 0 := fun e => hs (by rw [b2, e]; rfl)
  obtain ⟨k1, k2⟩ := okS_iff.1 hok
  obtain ⟨j1, j2, j3⟩ := k2.resolve_left hJ0
  unfold hasN at hh
  simp only [Bool.and_eq_true, Bool.or_eq_true, Bool.not_eq_true', beq_iff_eq] at hh
  have hna := hh.2.resolve_left hJ0
  have hia := hh.1
  obtain ⟨H, rfl⟩ := Int.eq_ofNat_of_zero_le (show 0 ≤ h by omega)
  obtain ⟨Jn, rfl⟩ := Int.eq_ofNat_of_zero_le b0
  simp only [Int.toNat_natCast] at *
  have a : LeafAt H i.toNat := ⟨l1, l2, l3⟩
  obtain ⟨q, q1, q2, q3, q4, q5⟩ := beside_nat a j1 hna
  have ef : fromJ (H : Int) i (I, (Jn : Int)) = ((Jn / 2 ^ (q - 1) : Nat) : Int) := by
    unfold fromJ
    show (besI (H : Int) (leafI (H : Int) i).1 (Jn : Int)).1 = _
    rw [el, q5]
  have hf0 : Jn / 2 ^ (q - 1) ≠ 0 := div_pos hJ0 (by omega)
  have hfl : (Jn / 2 ^ (q - 1)).log2 = Jn.log2 - (q - 1) := log2_div hJ0 (by omega)
  obtain ⟨_, _, _, jlt⟩ := okN_iff.1 j1
  have hDl := (okN_log (h := H) hJ0).1 jlt
  refine ⟨by rw [el, q5], ?_, fun y hy => ?_⟩
  · rw [ef]
    have f1 : okN H (Jn / 2 ^ (q - 1)) = true := okN_iff.2 ⟨l1, l2, Nat.pos_of_ne_zero hf0, (okN_log hf0).2 (by omega)⟩
    have f2 : abv (Jn / 2 ^ (q - 1)) Jn = true := abv_iff.2 ⟨by omega, by rw [hfl, show Jn.log2 - (Jn.log2 - (q - 1)) = q - 1 by omega]⟩
    unfold pathI bothI both
    have hf1 : (1 : Int) ≤ ((Jn / 2 ^ (q - 1) : Nat) : Int) := by exact_mod_cast Nat.pos_of_ne_zero hf0
    rw [chk_natOk f1, chk_natOk j1, above_nat hf1 (by omega) (by rw [Int.toNat_natCast]; exact b1), Int.toNat_natCast, Int.toNat_natCast, f2]
    rfl
  · rw [ef]
    unfold pairsL at hy
    rw [hn, show (k == 1) = false by simpa using hk, el] at hy
    simp only [cond_false, Int.toNat_natCast] at hy
    have hsz : ((Jn : Int) == 0) = false := beq_eq_false_iff_ne.2 (by omega)
    unfold hitB
    simp only [hsz, cond_false]
    rcases outG_mem (by rw [Int.toNat_natCast]; omega) hy with hy | ⟨t, d, ht, hd, rfl⟩
    · rw [List.mem_singleton] at hy
      subst hy
      have e0 : (((Jn / 2 ^ (q - 1) : Nat) : Int) == 0) = false := beq_eq_false_iff_ne.2 (by intro e; exact hf0 (by exact_mod_cast e))
      show ((1 : Int) == I && (bif (0 : Int) != 0 then _ else false)) = (I == (1 : Int) && (((Jn / 2 ^ (q - 1) : Nat) : Int) == 0))
      rw [e0, Bool.and_false]
      show ((1 : Int) == I && false) = false
      rw [Bool.and_false]
    · rw [Int.toNat_natCast] at hd
      rw [prP_nat l2 l3 ht hd]
      have hx0 : (leafN H i.toNat / 2 ^ (H - d)) ^^^ 1 ≠ 0 := by
        intro h0
        have hl := a.log
        have ld : (leafN H i.toNat / 2 ^ (H - d)).log2 = d := by rw [log2_div leafN_ne (by rw [hl]; omega), hl]; omega
        have nd : leafN H i.toNat / 2 ^ (H - d) ≠ 0 := div_pos leafN_ne (by rw [hl]; omega)
        have nd2 : 2 ≤ leafN H i.toNat / 2 ^ (H - d) := by
          have := log2_le nd
          rw [ld] at this
          have : 2 ^ 1 ≤ 2 ^ d := Nat.pow_le_pow_right (by decide) (by omega)
          omega
        have := xor_one_log2 nd2
        rw [h0, Nat.log2_zero, ld] at this
        omega
      have e1 : ((((leafN H i.toNat / 2 ^ (H - d)) ^^^ 1 : Nat) : Int) != 0) = true := by unfold bne; rw [beq_eq_false_iff_ne.2 (fun e => hx0 (by exact_mod_cast e))]; rfl
      simp only [e1, cond_true]
      unfold isI
      rw [Int.toNat_natCast, Int.toNat_natCast, hit_beside a j1 hna ht hd q1 q2 q3 q4]
      have e2 : ∀ m n : Nat, ((m : Int) == (n : Int)) = (m == n) := fun m n => by apply Bool.eq_iff_iff.2; rw [beq_iff_eq, beq_iff_eq]; omega
      rw [e2, BEq.comm (a := ((leafN H i.toNat / 2 ^ (H - t) : Nat) : Int))]

theorem entry_ref {h k i : Int} {s : Int × Int} (h1 : IntKind.u64.has s.1) (h2 : IntKind.u64.has s.2) (hi : IntKind.u64.has i) (hlen : (pairsL h k i).1.length ≤ 9223372036854775807) : refE h k i s = some (reE (entryI h k i s)) := by
  obtain ⟨c0, c1, c2⟩ := hasU hi
  obtain ⟨b0, b1, b2⟩ := hasU h2
  unfold refE entryI noEn
  cases hp : (pairsL h k i).2 != 0 with
  | true => rfl
  | false =>
    have hn : noPr h k i = false := by
      cases hn : noPr h k i with
      | false => rfl
      | true => unfold pairsL at hp; rw [hn] at hp; cases hp
    have hl := (noPr_ok hn).2
    have hlo : leafOk h.toNat i.toNat = true := by rw [leaf_ne c0 c1] at hl; simpa using hl
    rw [hl]
    cases hm : (mayI h k s).2 != 0 with
    | true => rfl
    | false =>
      cases hm1 : (mayI h k s).1 with
      | false => rfl
      | true =>
        have hmay : mayI h k s = (true, 0) := Prod.ext hm1 (by simpa using hm)
        have hok : okS h.toNat s.1.toNat s.2.toNat = true := by
          unfold mayI at hmay
          cases h3 : mayB3 h k s with
          | true => rw [h3] at hmay; cases hmay
          | false =>
            unfold mayB3 at h3
            cases h4 : schE h k != 0 with
            | true => rw [h4] at h3; cases h3
            | false =>
              rw [h4] at h3
              simp only [cond_false] at h3
              rw [subE_ne h1 h2] at h3
              simpa using h3
        have hv := has_nat (h := h) h1 h2 hi
        rw [hok, hlo] at hv
        simp only [Bool.and_self, cond_true] at hv
        rw [hv]
        cases hh : hasN h.toNat s.1.toNat s.2.toNat i.toNat with
        | false => rfl
        | true =>
          rw [lenMax hlen, decide_eq_true b0]
          simp only [Bool.not_true, cond_false, Bool.and_self, cond_true]
          show allK _ _ _ _ _ = some (reE (bif s.2 != 0 then _ else _))
          cases hz : s.2 == 0 with
          | true =>
            have hz' : (s.2 != 0) = false := by unfold bne; rw [hz]; rfl
            have hs0 : s.2 = 0 := by simpa using hz
            rw [hz']
            simp only [cond_false, cond_true]
            rw [allK_all (p := hitB s) (pairsL h k i).1]
            have e : idxP (hitB s) (pairsL h k i).1 0 = idxS s (pairsL h k i).1 0 := by
              rw [idxS_P]
              apply idxP_congr
              intro y _
              unfold hitB
              rw [hz, hs0, BEq.comm (a := y.1), BEq.comm (a := y.2)]; rfl
            rw [e]
            unfold atI
            cases hd : decide (idxS s (pairsL h k i).1 0 < 0) with
            | true => rfl
            | false =>
              have := of_decide_eq_false hd
              show some (ren (((idxS s (pairsL h k i).1 0).toNat : Nat) : Int) [] 0) = some (ren (idxS s (pairsL h k i).1 0) [] 0)
              rw [show (((idxS s (pairsL h k i).1 0).toNat : Nat) : Int) = idxS s (pairsL h k i).1 0 by omega]
          | false =>
            have hz' : (s.2 != 0) = true := by unfold bne; rw [hz]; rfl
            have hs0 : s.2 ≠ 0 := by simpa using hz
            have hk : k ≠ 1 := by
              rintro rfl
              exact hs0 (may_whole hmay)
            obtain ⟨e1, e2, e3⟩ := ent_J h1 h2 hi hn hk hs0 hok hh
            rw [hz', e1, e2]
            simp only [cond_false, cond_true]
            rw [allK_all (p := hitB s) (pairsL h k i).1]
            have e : idxP (hitB s) (pairsL h k i).1 0 = idxS (s.1, fromJ h i s) (pairsL h k i).1 0 := by
              rw [idxS_P]
              exact idxP_congr 0 e3
            rw [e]
            show _ = some (reE (atI _ _ _))
            unfold atI
            cases hd : decide (idxS (s.1, fromJ h i s) (pairsL h k i).1 0 < 0) with
            | true => rfl
            | false =>
              have hd := of_decide_eq_false hd
              obtain ⟨g1, g2, g3, _⟩ := idxS_ok hd
              show some (ren _ _ 0) = some (ren _ _ 0)
              rw [show (((idxS (s.1, fromJ h i s) (pairsL h k i).1 0).toNat : Nat) : Int) = idxS (s.1, fromJ h i s) (pairsL h k i).1 0 by omega, g3]
              rfl
theorem first_ref {h i : Int} {l : List (Int × Int)} (hlen : l.length ≤ 9223372036854775807) : refF h i l = some (ri2 (firstI h i l).1 (firstI h i l).2) := by
  unfold refF firstI
  have e1 := lenMax hlen
  have e2 : (decide (l = l) && decide ((l.length : Int) = l.length) && decide ((l.length : Int) ≤ 9223372036854775807)) = true := by rw [decide_eq_true (show l = l from rfl), Bool.true_and]; exact e1
  rw [e2, e1]
  cases (leafI h i).2 != 0 with
  | true => rfl
  | false =>
    simp only [cond_false, cond_true]
    rw [allK_all (p := badS h) l, allK_all (p := fun x => (hasI h x i).1) l]
    have e3 : idxP (fun x => (hasI h x i).1) l 0 = idxP (hasS h i) l 0 := by
      apply idxP_congr
      intro y _
      unfold hasS hasI
      cases badH h y i <;> rfl
    rw [e3]
    cases hb : decide (idxP (badS h) l 0 < 0) with
    | false =>
      rw [decide_eq_true (show idxP (badS h) l 0 ≥ 0 by have := of_decide_eq_false hb; omega)]; rfl
    | true =>
      rw [decide_eq_false (show ¬ idxP (badS h) l 0 ≥ 0 by have := of_decide_eq_true hb; omega)]
      simp only [cond_true, cond_false]
      cases hd : decide (idxP (hasS h i) l 0 < 0) with
      | true => rfl
      | false =>
        have hd := of_decide_eq_false hd
        simp only [cond_false]
        rw [show (((idxP (hasS h i) l 0).toNat : Nat) : Int) = idxP (hasS h i) l 0 by omega]
end Go.AM.Seat
