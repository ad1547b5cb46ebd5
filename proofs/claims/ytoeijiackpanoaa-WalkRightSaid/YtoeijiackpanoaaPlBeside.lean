/- Plain: the node beside a leaf's chain. -/
import Derived.Test.YtoeijiackpanoaaSeM4
import Derived.Test.YtoeijiackpanoaaPlFirst
set_option linter.unusedVariables false
set_option maxRecDepth 100000
namespace Go.AM.Seat
open Go Go.AM Go.Proofs

theorem xor_div {a b : Nat} (k : Nat) : (a ^^^ b) / 2 ^ k = (a / 2 ^ k) ^^^ (b / 2 ^ k) := by
  rw [← Nat.shiftRight_eq_div_pow, ← Nat.shiftRight_eq_div_pow, ← Nat.shiftRight_eq_div_pow, Nat.shiftRight_xor_distrib]
theorem xor_zero {a b : Nat} : a ^^^ b = 0 ↔ a = b := by
  constructor
  · intro h
    have : a ^^^ b ^^^ b = 0 ^^^ b := by rw [h]
    rwa [Nat.xor_assoc, Nat.xor_self, Nat.xor_zero, Nat.zero_xor] at this
  · rintro rfl; exact Nat.xor_self a
theorem agree_iff {a b k : Nat} : a / 2 ^ k = b / 2 ^ k ↔ a ^^^ b < 2 ^ k := by
  rw [← xor_zero, ← xor_div, Nat.div_eq_zero_iff_lt (Nat.two_pow_pos k)]
theorem xorI_nat {a b : Nat} (ha : a < 2 ^ 64) (hb : b < 2 ^ 64) : xorI a b = ((a ^^^ b : Nat) : Int) := by
  unfold xorI
  have e1 : (BitVec.ofInt 64 (a : Int)).toNat = a := by rw [BitVec.toNat_ofInt]; omega
  have e2 : (BitVec.ofInt 64 (b : Int)).toNat = b := by rw [BitVec.toNat_ofInt]; omega
  rw [BitVec.toNat_xor, e1, e2, wrapU]
  · omega
  · have := Nat.xor_lt_two_pow ha hb; omega
theorem depI_nat {n : Nat} (h : n ≠ 0) : depI (n : Int) = (n.log2 : Int) := by rw [dep_nat (by omega), Int.toNat_natCast]
theorem chk_natOk {H n : Nat} (h : okN H n = true) : (chkI (H : Int) (n : Int) != 0) = false := by rw [chk_ne (by omega), Int.toNat_natCast, Int.toNat_natCast, h]; rfl
/-- BESIDE: the last node of J's chain that is not of the leaf's. -/
theorem beside_nat {H x J : Nat} (a : LeafAt H x) (hJ : okN H J = true) (hn : abv J (leafN H x) = false) : ∃ q, 1 ≤ q ∧ q ≤ J.log2 ∧
    leafN H x / 2 ^ (H - J.log2) / 2 ^ q = J / 2 ^ q ∧ leafN H x / 2 ^ (H - J.log2) / 2 ^ (q - 1) ≠ J / 2 ^ (q - 1) ∧
    besI (H : Int) ((leafN H x : Nat) : Int) (J : Int) = (((J / 2 ^ (q - 1) : Nat) : Int), 0) := by
  obtain ⟨_, _, j1, j2⟩ := okN_iff.1 hJ
  have hj0 : J ≠ 0 := by omega
  have hD := (okN_log (h := H) hj0).1 j2
  have hl := a.log
  have hL0 := leafN_ne (h := H) (i := x)
  have hb := a.lt
  have h32 := a.h2
  have h1 := a.h1
  have hJ64 : J < 2 ^ 64 := by
    have : 2 ^ (H + 1) ≤ 2 ^ 33 := Nat.pow_le_pow_right (by decide) (by omega)
    omega
  have hLok : okN H (leafN H x) = true := okN_iff.2 ⟨a.h1, a.h2, by omega, (okN_log hL0).2 (by omega)⟩
  generalize hLe : leafN H x = L at *
  generalize hDe : J.log2 = D at *
  have hA0 : L / 2 ^ (H - D) ≠ 0 := div_pos hL0 (by omega)
  have hAl : (L / 2 ^ (H - D)).log2 = D := by rw [log2_div hL0 (by omega)]; omega
  have hA64 : L / 2 ^ (H - D) < 2 ^ 64 := Nat.lt_of_le_of_lt (Nat.div_le_self _ _) (by omega)
  have hne : L / 2 ^ (H - D) ≠ J := by
    intro e
    have : abv J L = true := abv_iff.2 ⟨by omega, by rw [hDe, hl]; exact e⟩
    rw [this] at hn; cases hn
  generalize hAe : L / 2 ^ (H - D) = A at *
  have hx0 : A ^^^ J ≠ 0 := fun e => hne (xor_zero.1 e)
  have htop : A / 2 ^ D = J / 2 ^ D := by
    have k1 := log2_le hA0
    have k2 := lt_log2 (n := A)
    have k3 := log2_le hj0
    have k4 := lt_log2 (n := J)
    rw [hAl] at k1 k2
    rw [hDe] at k3 k4
    rw [Nat.pow_succ] at k2 k4
    rw [Nat.div_eq_of_lt_le (k := 1) (by omega) (by omega), Nat.div_eq_of_lt_le (k := 1) (by omega) (by omega)]
  have hxl : (A ^^^ J).log2 < D := (Nat.log2_lt hx0).2 (agree_iff.1 htop)
  have hx64 : A ^^^ J < 2 ^ 64 := Nat.xor_lt_two_pow hA64 hJ64
  refine ⟨(A ^^^ J).log2 + 1, by omega, by omega, agree_iff.2 lt_log2, fun e => ?_, ?_⟩
  · rw [Nat.add_sub_cancel] at e
    have := agree_iff.1 e
    have := log2_le hx0
    omega
  · rw [Nat.add_sub_cancel]
    have m1 : minI (H : Int) (D : Int) = (D : Int) := by unfold minI; split <;> omega
    have e1 : meetI (H : Int) (L : Int) (J : Int) = (((A / 2 ^ ((A ^^^ J).log2 + 1) : Nat) : Int), 0) := by
      unfold meetI bothI both
      rw [chk_natOk hLok, chk_natOk hJ, depI_nat hL0, depI_nat hj0, hl, hDe, m1]
      simp only [cond_false]
      have s1 : shrI (L : Int) ((H - D : Nat) : Int) = (A : Int) := by rw [shr_nat (by omega) (by omega), Int.toNat_natCast, Int.toNat_natCast, hAe]
      have s2 : shrI (J : Int) ((0 : Nat) : Int) = (J : Int) := by rw [shr_nat (by omega) (by omega), Int.toNat_natCast, Int.toNat_natCast, Nat.pow_zero, Nat.div_one]
      rw [show (H : Int) - (D : Int) = ((H - D : Nat) : Int) by omega, show (D : Int) - (D : Int) = ((0 : Nat) : Int) by omega, s1, s2]
      rw [xorI_nat hA64 hJ64, lenI_nat hx0, show ((A ^^^ J).log2 : Int) + 1 = (((A ^^^ J).log2 + 1 : Nat) : Int) by omega, shr_nat (by omega) (by omega), Int.toNat_natCast, Int.toNat_natCast]
      rfl
    have hm0 : A / 2 ^ ((A ^^^ J).log2 + 1) ≠ 0 := div_pos hA0 (by omega)
    have hml : (A / 2 ^ ((A ^^^ J).log2 + 1)).log2 = D - ((A ^^^ J).log2 + 1) := by rw [log2_div hA0 (by omega), hAl]
    have e2 : depthI (H : Int) (((A / 2 ^ ((A ^^^ J).log2 + 1) : Nat) : Int)) = (((D - ((A ^^^ J).log2 + 1) : Nat) : Int), 0) := by
      unfold depthI
      rw [chk_natOk (okN_iff.2 ⟨a.h1, a.h2, Nat.pos_of_ne_zero hm0, (okN_log hm0).2 (by omega)⟩), depI_nat hm0, hml]; rfl
    unfold besI
    rw [e1, e2]
    show upI (H : Int) (J : Int) (IntKind.i64.wrap (((D - ((A ^^^ J).log2 + 1) : Nat) : Int) + 1)) = _
    rw [wrap64 (by omega) (by omega)]
    unfold upI outUp
    rw [chk_natOk hJ, depI_nat hj0, hDe, decide_eq_false (show ¬ ((D - ((A ^^^ J).log2 + 1) : Nat) : Int) + 1 < 0 by omega), decide_eq_false (show ¬ ((D - ((A ^^^ J).log2 + 1) : Nat) : Int) + 1 > (D : Int) by omega)]
    show (shrI (J : Int) ((D : Int) - (((D - ((A ^^^ J).log2 + 1) : Nat) : Int) + 1)), (0 : Int)) = _
    rw [show (D : Int) - (((D - ((A ^^^ J).log2 + 1) : Nat) : Int) + 1) = (((A ^^^ J).log2 : Nat) : Int) by omega, shr_nat (by omega) (by omega), Int.toNat_natCast, Int.toNat_natCast]

theorem allK_congr {R : Nat → Option AV} {E : Option AV} {b b' : Nat → Bool} : ∀ {m j : Nat}, (∀ i, j ≤ i → i < j + m → b i = b' i) → allK R E b m j = allK R E b' m j := by
  intro m
  induction m with
  | zero => intro j _; rfl
  | succ m ih =>
    intro j h
    rw [allK, allK, h j (Nat.le_refl j) (by omega), ih fun i h1 h2 => h i (by omega) (by omega)]
theorem allK_idxP {R : Nat → Option AV} {E : Option AV} {p : Int × Int → Bool} (l : List (Int × Int)) : ∀ (m j : Nat), j + m = l.length →
    allK R E (fun j => p (sAt l j)) m j = bif decide (idxP p (l.drop j) j < 0) then E else R (idxP p (l.drop j) j).toNat := by
  intro m
  induction m with
  | zero =>
    intro j hj
    rw [List.drop_of_length_le (by omega)]; rfl
  | succ m ih =>
    intro j hj
    have h1 : j < l.length := by omega
    rw [allK, ih (j + 1) (by omega), sAt_drop h1]
    rcases Bool.eq_false_or_eq_true (p (sAt l j)) with hx | hx
    · simp only [idxP, hx, cond_true]
      rw [decide_eq_false (show ¬ (j : Int) < 0 by omega), Int.toNat_natCast]; rfl
    · simp only [idxP, hx, cond_false]; rfl
theorem allK_all {R : Nat → Option AV} {E : Option AV} {p : Int × Int → Bool} (l : List (Int × Int)) : allK R E (fun j => p (sAt l j)) (l.length : Int).toNat 0 = bif decide (idxP p l 0 < 0) then E else R (idxP p l 0).toNat := by
  rw [Int.toNat_natCast, allK_idxP l l.length 0 (by omega), List.drop_zero]; rfl
theorem idxS_P (s : Int × Int) : ∀ (l : List (Int × Int)) (i : Int), idxS s l i = idxP (fun x => s.1 == x.1 && s.2 == x.2) l i := by
  intro l
  induction l with
  | nil => intro i; rfl
  | cons x l ih => intro i; simp only [idxS, idxP, ih]
theorem idxP_congr {p q : Int × Int → Bool} : ∀ {l : List (Int × Int)} (i : Int), (∀ x ∈ l, p x = q x) → idxP p l i = idxP q l i := by
  intro l
  induction l with
  | nil => intro i _; rfl
  | cons x l ih =>
    intro i h
    simp only [idxP]
    rw [h x (by simp), ih (i + 1) fun y hy => h y (by simp [hy])]

/-- Which pair of a leaf's is hit: just the one beside. -/
theorem hit_beside {H x J t d : Nat} (a : LeafAt H x) (hJ : okN H J = true) (hn : abv J (leafN H x) = false) (ht : t < d) (hd : d ≤ H) {q : Nat} (q1 : 1 ≤ q) (q2 : q ≤ J.log2)
    (q3 : leafN H x / 2 ^ (H - J.log2) / 2 ^ q = J / 2 ^ q) (q4 : leafN H x / 2 ^ (H - J.log2) / 2 ^ (q - 1) ≠ J / 2 ^ (q - 1)) :
    abv ((leafN H x / 2 ^ (H - d)) ^^^ 1) J = (J / 2 ^ (q - 1) == (leafN H x / 2 ^ (H - d)) ^^^ 1) := by
  obtain ⟨_, _, j1, j2⟩ := okN_iff.1 hJ
  have hj0 : J ≠ 0 := by omega
  have hD := (okN_log (h := H) hj0).1 j2
  have hl := a.log
  have hL0 := leafN_ne (h := H) (i := x)
  generalize leafN H x = L at *
  have ld : (L / 2 ^ (H - d)).log2 = d := by rw [log2_div hL0 (by omega)]; omega
  have nd : L / 2 ^ (H - d) ≠ 0 := div_pos hL0 (by omega)
  have nd2 : 2 ≤ L / 2 ^ (H - d) := by
    have := log2_le nd
    rw [ld] at this
    have : 2 ^ 1 ≤ 2 ^ d := Nat.pow_le_pow_right (by decide) (by omega)
    omega
  have lx : ((L / 2 ^ (H - d)) ^^^ 1).log2 = d := by rw [xor_one_log2 nd2, ld]
  apply Bool.eq_iff_iff.2
  rw [abv_iff, beq_iff_eq, lx]
  constructor
  · rintro ⟨h1, h2⟩
    -- the depth is the one beside
    have ek : L / 2 ^ (H - J.log2) / 2 ^ (J.log2 - d) = L / 2 ^ (H - d) := by rw [div_div_pow]; congr 2; omega
    have n1 : L / 2 ^ (H - J.log2) / 2 ^ (J.log2 - d) ≠ J / 2 ^ (J.log2 - d) := by rw [ek, h2]; exact (xor_one _).2.symm
    have n2 : L / 2 ^ (H - J.log2) / 2 ^ (J.log2 - d + 1) = J / 2 ^ (J.log2 - d + 1) := by
      rw [← div_div_pow, ek, ← div_div_pow J, h2, Nat.pow_one, (xor_one _).1]
    have m1 := agree_iff.1 q3
    have m2 : ¬ _ := fun h => q4 (agree_iff.2 h)
    have m3 := agree_iff.1 n2
    have m4 : ¬ _ := fun h => n1 (agree_iff.2 h)
    have : J.log2 - d = q - 1 := by
      rcases Nat.lt_trichotomy (J.log2 - d) (q - 1) with h | h | h
      · exact absurd (Nat.lt_of_lt_of_le m3 (Nat.pow_le_pow_right (by decide) (by omega))) m2
      · exact h
      · exact absurd (Nat.lt_of_lt_of_le m1 (Nat.pow_le_pow_right (by decide) (by omega))) m4
    rw [← this]; exact h2
  · intro h
    have hlog : (J / 2 ^ (q - 1)).log2 = J.log2 - (q - 1) := log2_div hj0 (by omega)
    rw [h, lx] at hlog
    refine ⟨by omega, ?_⟩
    rw [show J.log2 - d = q - 1 by omega]; exact h

theorem ent_J {h k i : Int} {s : Int × Int} (h1 : IntKind.u64.has s.1) (h2 : IntKind.u64.has s.2) (hi : IntKind.u64.has i) (hn : noPr h k i = false) (hk : k ≠ 1) (hs : s.2 ≠ 0)
    (hok : okS h.toNat s.1.toNat s.2.toNat = true) (hh : hasN h.toNat s.1.toNat s.2.toNat i.toNat = true) :
    (besI h (leafI h i).1 s.2).2 = 0 ∧ (pathI h (fromJ h i s) s.2).2 = 0 ∧ ∀ y ∈ (pairsL h k i).1, hitB s y = (s.1 == y.1 && fromJ h i s == y.2) := by
  obtain ⟨n1, n2⟩ := noPr_ok hn
  obtain ⟨m1, m2, m3, _, _⟩ := many_ok n1
  obtain ⟨c0, c1, c2⟩ := hasU hi
  obtain ⟨b0, b1, b2⟩ := hasU h2
  have hlo : leafOk h.toNat i.toNat = true := by rw [leaf_ne c0 c1] at n2; simpa using n2
  obtain ⟨l1, l2, l3⟩ := leafOk_iff.1 hlo
  have el := leaf_val c0 c1 hlo
  obtain ⟨I, J⟩ := s
  simp only at h1 h2 hs hok hh b0 b1 b2 ⊢
  have hJ0 : J.toNat ≠ 0 := fun e => hs (by rw [b2, e]; rfl)
  obtain ⟨k1, k2⟩ := okS_iff.1 hok
  obtain ⟨j1, j2, j3⟩ := k2.resolve_left hJ0
  unfold hasN at hh
  simp only [Bool.and_eq_true, Bool.or_eq_true, Bool.not_eq_true', beq_iff_eq] at hh
  have hna := hh.2.resolve_left hJ0
  have hia := hh.1
  obtain ⟨H, rfl⟩ := Int.eq_ofNat_of_zero_le (show 0 ≤ h by omega)
  obtain ⟨Jn, rfl⟩ := Int.eq_ofNat_of_zero_le b0
  simp only [Int.toNat_natCast] at *
  have a : LeafAt H i.toNat := ⟨l1, l2, l3⟩
  obtain ⟨q, q1, q2, q3, q4, q5⟩ := beside_nat a j1 hna
  have ef : fromJ (H : Int) i (I, (Jn : Int)) = ((Jn / 2 ^ (q - 1) : Nat) : Int) := by
    unfold fromJ
    show (besI (H : Int) (leafI (H : Int) i).1 (Jn : Int)).1 = _
    rw [el, q5]
  have hf0 : Jn / 2 ^ (q - 1) ≠ 0 := div_pos hJ0 (by omega)
  have hfl : (Jn / 2 ^ (q - 1)).log2 = Jn.log2 - (q - 1) := log2_div hJ0 (by omega)
  obtain ⟨_, _, _, jlt⟩ := okN_iff.1 j1
  have hDl := (okN_log (h := H) hJ0).1 jlt
  refine ⟨by rw [el, q5], ?_, fun y hy => ?_⟩
  · rw [ef]
    have f1 : okN H (Jn / 2 ^ (q - 1)) = true := okN_iff.2 ⟨l1, l2, Nat.pos_of_ne_zero hf0, (okN_log hf0).2 (by omega)⟩
    have f2 : abv (Jn / 2 ^ (q - 1)) Jn = true := abv_iff.2 ⟨by omega, by rw [hfl, show Jn.log2 - (Jn.log2 - (q - 1)) = q - 1 by omega]⟩
    unfold pathI bothI both
    have hf1 : (1 : Int) ≤ ((Jn / 2 ^ (q - 1) : Nat) : Int) := by exact_mod_cast Nat.pos_of_ne_zero hf0
    rw [chk_natOk f1, chk_natOk j1, above_nat hf1 (by omega) (by rw [Int.toNat_natCast]; exact b1), Int.toNat_natCast, Int.toNat_natCast, f2]
    rfl
  · rw [ef]
    unfold pairsL at hy
    rw [hn, show (k == 1) = false by simpa using hk, el] at hy
    simp only [cond_false, Int.toNat_natCast] at hy
    have hsz : ((Jn : Int) == 0) = false := beq_eq_false_iff_ne.2 (by omega)
    unfold hitB
    simp only [hsz, cond_false]
    rcases outG_mem (by rw [Int.toNat_natCast]; omega) hy with hy | ⟨t, d, ht, hd, rfl⟩
    · rw [List.mem_singleton] at hy
      subst hy
      have e0 : (((Jn / 2 ^ (q - 1) : Nat) : Int) == 0) = false := beq_eq_false_iff_ne.2 (by intro e; exact hf0 (by exact_mod_cast e))
      show ((1 : Int) == I && (bif (0 : Int) != 0 then _ else false)) = (I == (1 : Int) && (((Jn / 2 ^ (q - 1) : Nat) : Int) == 0))
      rw [e0, Bool.and_false]
      show ((1 : Int) == I && false) = false
      rw [Bool.and_false]
    · rw [Int.toNat_natCast] at hd
      rw [prP_nat l2 l3 ht hd]
      have hx0 : (leafN H i.toNat / 2 ^ (H - d)) ^^^ 1 ≠ 0 := by
        intro h0
        have hl := a.log
        have ld : (leafN H i.toNat / 2 ^ (H - d)).log2 = d := by rw [log2_div leafN_ne (by rw [hl]; omega), hl]; omega
        have nd : leafN H i.toNat / 2 ^ (H - d) ≠ 0 := div_pos leafN_ne (by rw [hl]; omega)
        have nd2 : 2 ≤ leafN H i.toNat / 2 ^ (H - d) := by
          have := log2_le nd
          rw [ld] at this
          have : 2 ^ 1 ≤ 2 ^ d := Nat.pow_le_pow_right (by decide) (by omega)
          omega
        have := xor_one_log2 nd2
        rw [h0, Nat.log2_zero, ld] at this
        omega
      have e1 : ((((leafN H i.toNat / 2 ^ (H - d)) ^^^ 1 : Nat) : Int) != 0) = true := by unfold bne; rw [beq_eq_false_iff_ne.2 (fun e => hx0 (by exact_mod_cast e))]; rfl
      simp only [e1, cond_true]
      unfold isI
      rw [Int.toNat_natCast, Int.toNat_natCast, hit_beside a j1 hna ht hd q1 q2 q3 q4]
      have e2 : ∀ m n : Nat, ((m : Int) == (n : Int)) = (m == n) := fun m n => by apply Bool.eq_iff_iff.2; rw [beq_iff_eq, beq_iff_eq]; omega
      rw [e2, BEq.comm (a := ((leafN H i.toNat / 2 ^ (H - t) : Nat) : Int))]

theorem entry_ref {h k i : Int} {s : Int × Int} (h1 : IntKind.u64.has s.1) (h2 : IntKind.u64.has s.2) (hi : IntKind.u64.has i) (hlen : (pairsL h k i).1.length ≤ 9223372036854775807) : refE h k i s = some (reE (entryI h k i s)) := by
  obtain ⟨c0, c1, c2⟩ := hasU hi
  obtain ⟨b0, b1, b2⟩ := hasU h2
  unfold refE entryI noEn
  cases hp : (pairsL h k i).2 != 0 with
  | true => rfl
  | false =>
    have hn : noPr h k i = false := by
      cases hn : noPr h k i with
      | false => rfl
      | true => unfold pairsL at hp; rw [hn] at hp; cases hp
    have hl := (noPr_ok hn).2
    have hlo : leafOk h.toNat i.toNat = true := by rw [leaf_ne c0 c1] at hl; simpa using hl
    rw [hl]
    cases hm : (mayI h k s).2 != 0 with
    | true => rfl
    | false =>
      cases hm1 : (mayI h k s).1 with
      | false => rfl
      | true =>
        have hmay : mayI h k s = (true, 0) := Prod.ext hm1 (by simpa using hm)
        have hok : okS h.toNat s.1.toNat s.2.toNat = true := by
          unfold mayI at hmay
          cases h3 : mayB3 h k s with
          | true => rw [h3] at hmay; cases hmay
          | false =>
            unfold mayB3 at h3
            cases h4 : schE h k != 0 with
            | true => rw [h4] at h3; cases h3
            | false =>
              rw [h4] at h3
              simp only [cond_false] at h3
              rw [subE_ne h1 h2] at h3
              simpa using h3
        have hv := has_nat (h := h) h1 h2 hi
        rw [hok, hlo] at hv
        simp only [Bool.and_self, cond_true] at hv
        rw [hv]
        cases hh : hasN h.toNat s.1.toNat s.2.toNat i.toNat with
        | false => rfl
        | true =>
          rw [lenMax hlen, decide_eq_true b0]
          simp only [Bool.not_true, cond_false, Bool.and_self, cond_true]
          show allK _ _ _ _ _ = some (reE (bif s.2 != 0 then _ else _))
          cases hz : s.2 == 0 with
          | true =>
            have hz' : (s.2 != 0) = false := by unfold bne; rw [hz]; rfl
            have hs0 : s.2 = 0 := by simpa using hz
            rw [hz']
            simp only [cond_false, cond_true]
            rw [allK_all (p := hitB s) (pairsL h k i).1]
            have e : idxP (hitB s) (pairsL h k i).1 0 = idxS s (pairsL h k i).1 0 := by
              rw [idxS_P]
              apply idxP_congr
              intro y _
              unfold hitB
              rw [hz, hs0, BEq.comm (a := y.1), BEq.comm (a := y.2)]; rfl
            rw [e]
            unfold atI
            cases hd : decide (idxS s (pairsL h k i).1 0 < 0) with
            | true => rfl
            | false =>
              have := of_decide_eq_false hd
              show some (ren (((idxS s (pairsL h k i).1 0).toNat : Nat) : Int) [] 0) = some (ren (idxS s (pairsL h k i).1 0) [] 0)
              rw [show (((idxS s (pairsL h k i).1 0).toNat : Nat) : Int) = idxS s (pairsL h k i).1 0 by omega]
          | false =>
            have hz' : (s.2 != 0) = true := by unfold bne; rw [hz]; rfl
            have hs0 : s.2 ≠ 0 := by simpa using hz
            have hk : k ≠ 1 := by
              rintro rfl
              exact hs0 (may_whole hmay)
            obtain ⟨e1, e2, e3⟩ := ent_J h1 h2 hi hn hk hs0 hok hh
            rw [hz', e1, e2]
            simp only [cond_false, cond_true]
            rw [allK_all (p := hitB s) (pairsL h k i).1]
            have e : idxP (hitB s) (pairsL h k i).1 0 = idxS (s.1, fromJ h i s) (pairsL h k i).1 0 := by
              rw [idxS_P]
              exact idxP_congr 0 e3
            rw [e]
            show _ = some (reE (atI _ _ _))
            unfold atI
            cases hd : decide (idxS (s.1, fromJ h i s) (pairsL h k i).1 0 < 0) with
            | true => rfl
            | false =>
              have hd := of_decide_eq_false hd
              obtain ⟨g1, g2, g3, _⟩ := idxS_ok hd
              show some (ren _ _ 0) = some (ren _ _ 0)
              rw [show (((idxS (s.1, fromJ h i s) (pairsL h k i).1 0).toNat : Nat) : Int) = idxS (s.1, fromJ h i s) (pairsL h k i).1 0 by omega, g3]
              rfl
theorem first_ref {h i : Int} {l : List (Int × Int)} (hlen : l.length ≤ 9223372036854775807) : refF h i l = some (ri2 (firstI h i l).1 (firstI h i l).2) := by
  unfold refF firstI
  have e1 := lenMax hlen
  have e2 : (decide (l = l) && decide ((l.length : Int) = l.length) && decide ((l.length : Int) ≤ 9223372036854775807)) = true := by rw [decide_eq_true (show l = l from rfl), Bool.true_and]; exact e1
  rw [e2, e1]
  cases (leafI h i).2 != 0 with
  | true => rfl
  | false =>
    simp only [cond_false, cond_true]
    rw [allK_all (p := badS h) l, allK_all (p := fun x => (hasI h x i).1) l]
    have e3 : idxP (fun x => (hasI h x i).1) l 0 = idxP (hasS h i) l 0 := by
      apply idxP_congr
      intro y _
      unfold hasS hasI
      cases badH h y i <;> rfl
    rw [e3]
    cases hb : decide (idxP (badS h) l 0 < 0) with
    | false =>
      rw [decide_eq_true (show idxP (badS h) l 0 ≥ 0 by have := of_decide_eq_false hb; omega)]; rfl
    | true =>
      rw [decide_eq_false (show ¬ idxP (badS h) l 0 ≥ 0 by have := of_decide_eq_true hb; omega)]
      simp only [cond_true, cond_false]
      cases hd : decide (idxP (hasS h i) l 0 < 0) with
      | true => rfl
      | false =>
        have hd := of_decide_eq_false hd
        simp only [cond_false]
        rw [show (((idxP (hasS h i) l 0).toNat : Nat) : Int) = idxP (hasS h i) l 0 by omega]

theorem inG_sub {h k leaf : Int} {t : Nat} {x : Subset.D} : ∀ {m d : Nat} {out : List Subset.D}, x ∈ out → x ∈ inG h k leaf t m d out := by
  intro m
  induction m with
  | zero => intro d out hx; exact hx
  | succ m ih =>
    intro d out hx
    rw [inG]
    apply ih
    cases keepB h k (prP h leaf t d) with
    | true => exact List.mem_append_left _ hx
    | false => exact hx
theorem inG_at {h k leaf : Int} {t d' : Nat} (hk : keepB h k (prP h leaf t d') = true) : ∀ {m d : Nat} {out : List Subset.D}, d ≤ d' → d' < d + m → prP h leaf t d' ∈ inG h k leaf t m d out := by
  intro m
  induction m with
  | zero => intro d out h1 h2; omega
  | succ m ih =>
    intro d out h1 h2
    rw [inG]
    rcases Nat.lt_or_eq_of_le h1 with h | rfl
    · exact ih (by omega) (by omega)
    · apply inG_sub
      rw [hk]
      exact List.mem_append_right _ (List.mem_singleton.2 rfl)
theorem outG_sub {h k leaf : Int} {x : Subset.D} : ∀ {m t : Nat} {out : List Subset.D}, x ∈ out → x ∈ outG h k leaf m t out := by
  intro m
  induction m with
  | zero => intro t out hx; exact hx
  | succ m ih => intro t out hx; rw [outG]; exact ih (inG_sub hx)
theorem outG_at {h k leaf : Int} {t d : Nat} (htd : t < d) (hd : d ≤ h.toNat) (hk : keepB h k (prP h leaf t d) = true) : ∀ {m t0 : Nat} {out : List Subset.D}, t0 ≤ t → t < t0 + m → prP h leaf t d ∈ outG h k leaf m t0 out := by
  intro m
  induction m with
  | zero => intro t0 out h1 h2; omega
  | succ m ih =>
    intro t0 out h1 h2
    rw [outG]
    rcases Nat.lt_or_eq_of_le h1 with h | rfl
    · exact ih (by omega) (by omega)
    · exact outG_sub (inG_at hk (by omega) (by omega))
theorem idxS_mem {s : Subset.D} : ∀ {l : List Subset.D} {i : Int}, 0 ≤ i → s ∈ l → ¬ idxS s l i < 0 := by
  intro l
  induction l with
  | nil => intro i _ h; cases h
  | cons x l ih =>
    intro i hi h
    simp only [idxS]
    cases hx : s.1 == x.1 && s.2 == x.2 with
    | true => simp only [cond_true]; omega
    | false =>
      simp only [cond_false]
      rcases List.mem_cons.1 h with rfl | h
      · simp at hx
      · exact ih (by omega) h
theorem sib {x y : Nat} (h1 : x / 2 = y / 2) (h2 : x ≠ y) : y = x ^^^ 1 := by
  have h3 : x ^^^ y < 2 ^ 1 := agree_iff.1 (by simpa using h1)
  have h4 : x ^^^ y ≠ 0 := fun e => h2 (xor_zero.1 e)
  have h5 : x ^^^ y = 1 := by omega
  rw [← h5, ← Nat.xor_assoc, Nat.xor_self, Nat.zero_xor]
/-- A way, in bits. -/
theorem path_nat {H a b : Nat} (ha : okN H a = true) (hb : okN H b = true) (h : abv a b = true) : pathI (H : Int) (a : Int) (b : Int) = ((List.range (b.log2 - a.log2)).map fun m => ((b / 2 ^ (b.log2 - a.log2 - 1 - m) % 2 : Nat) : Int), 0) := by
  obtain ⟨h1, h2, a1, a2⟩ := okN_iff.1 ha
  obtain ⟨_, _, b1, b2⟩ := okN_iff.1 hb
  have : 2 ^ (H + 1) ≤ 2 ^ 33 := Nat.pow_le_pow_right (by decide) (by omega)
  have hbl := (okN_log (h := H) (show b ≠ 0 by omega)).1 b2
  unfold pathI bothI both
  rw [chk_natOk ha, chk_natOk hb, above_nat (by omega) (by omega) (by rw [Int.toNat_natCast]; omega), Int.toNat_natCast, Int.toNat_natCast, h]
  have hn : pathN (a : Int) (b : Int) = ((b.log2 - a.log2 : Nat) : Int) := by
    unfold pathN
    rw [depI_nat (show a ≠ 0 by omega), depI_nat (show b ≠ 0 by omega)]
    have := (abv_iff.1 h).1
    omega
  show (setG (b : Int) (pathN (a : Int) (b : Int)).toNat (pathN (a : Int) (b : Int)).toNat 0 (List.replicate (pathN (a : Int) (b : Int)).toNat 0), (0 : Int)) = _
  rw [hn, Int.toNat_natCast, setG_eq (by omega) (by omega)]
theorem path_join {H a f b : Nat} (ha : okN H a = true) (hf : okN H f = true) (hb : okN H b = true) (h1 : abv a f = true) (h2 : abv f b = true) :
    abv a b = true ∧ (pathI (H : Int) (a : Int) (f : Int)).1 ++ (pathI (H : Int) (f : Int) (b : Int)).1 = (pathI (H : Int) (a : Int) (b : Int)).1 := by
  obtain ⟨c1, c2⟩ := abv_iff.1 h1
  obtain ⟨d1, d2⟩ := abv_iff.1 h2
  have h3 : abv a b = true := abv_iff.2 ⟨by omega, by
    have e : b.log2 - a.log2 = (b.log2 - f.log2) + (f.log2 - a.log2) := by omega
    rw [e, ← div_div_pow, d2, c2]⟩
  refine ⟨h3, ?_⟩
  rw [path_nat ha hf h1, path_nat hf hb h2, path_nat ha hb h3]
  simp only
  apply List.ext_getElem?
  intro i
  rcases Nat.lt_or_ge i (f.log2 - a.log2) with hi | hi
  · rw [List.getElem?_append_left (by simp; omega), List.getElem?_map, List.getElem?_map, List.getElem?_range hi, List.getElem?_range (by omega)]
    simp only [Option.map_some]
    have e : b.log2 - a.log2 - 1 - i = (b.log2 - f.log2) + (f.log2 - a.log2 - 1 - i) := by omega
    rw [e, ← div_div_pow, d2]
  · rw [List.getElem?_append_right (by simp; omega), List.length_map, List.length_range]
    rcases Nat.lt_or_ge i (b.log2 - a.log2) with hj | hj
    · rw [List.getElem?_map, List.getElem?_map, List.getElem?_range (by omega), List.getElem?_range hj]
      simp only [Option.map_some]
      congr 5
      omega
    · rw [List.getElem?_eq_none (by simp; omega), List.getElem?_eq_none (by simp; omega)]
theorem may_sub {h k : Int} {s : Subset.D} (e : mayI h k s = (true, 0)) : subE h s = 0 ∧ (schE h k != 0) = false := by
  unfold mayI at e
  cases h3 : mayB3 h k s with
  | true => rw [h3] at e; cases e
  | false =>
    unfold mayB3 at h3
    cases h4 : schE h k != 0 with
    | true => rw [h4] at h3; cases h3
    | false => rw [h4] at h3; exact ⟨by simpa using h3, rfl⟩
/-- What is useful stays so nearer. -/
theorem use_near {h : Int} {I J f : Int} (hs : useI h (I, J) = (true, 0)) (hJ : J ≠ 0) (hf : f ≠ 0) (h1 : subE h (I, f) = 0) (h2 : (depthI h f).2 = 0) (h3 : (depthI h f).1 ≤ (depthI h J).1) : useI h (I, f) = (true, 0) := by
  unfold useI at hs ⊢
  rw [h1]
  cases hz : subE h (I, J) != 0 with
  | true => rw [hz] at hs; cases hs
  | false =>
    rw [hz] at hs
    have e1 : ((I, J).2 == 0) = false := by simpa using hJ
    have e2 : ((I, f).2 == 0) = false := by simpa using hf
    rw [e1] at hs
    rw [e2]
    simp only [cond_false, Prod.mk.injEq] at hs
    obtain ⟨a1, a2⟩ := hs
    cases hst : (stepI h).2 != 0 with
    | true => rw [hst] at a2; exact absurd a2 (by simpa using hst)
    | false =>
      rw [hst] at a2
      simp only [cond_false] at a2
      have hb : depB h (I, J) = true ∧ (depthI h I).2 = 0 := by
        unfold depE depB at a2
        unfold depB
        have e3 : ((I, J).2 != 0) = true := by simpa using hJ
        rw [e3] at a2 ⊢
        cases hq : (depthI h I).2 == 0 with
        | true => exact ⟨by simp only [cond_true], eq_of_beq hq⟩
        | false => simp only [hq, cond_false] at a2; rw [a2] at hq; exact absurd hq (by decide)
      have hb2 : depB h (I, f) = true := by
        unfold depB
        have e3 : ((I, f).2 != 0) = true := by simpa using hf
        rw [e3]; simp only; rw [hb.2]; rfl
      have e4 : depE h (I, f) = 0 := by unfold depE; rw [hb2]; exact h2
      have e5 : depE h (I, J) = 0 := a2
      have e6 : depJ h (I, f) = (depthI h f).1 := by unfold depJ; rw [hb2]; rfl
      have e7 : depJ h (I, J) = (depthI h J).1 := by unfold depJ; rw [hb.1]; rfl
      unfold useB at a1 ⊢
      rw [hst] at a1 ⊢
      simp only [cond_false] at a1 ⊢
      rw [e4, e6]
      rw [e5, e7] at a1
      simp only [beq_self_eq_true, cond_true] at a1 ⊢
      have : (bif spB (depthI h I).1 (stepI h).1 h then true else decide ((depthI h f).1 ≤ nxI (depthI h I).1 (stepI h).1 h)) = true := by
        cases hsp : spB (depthI h I).1 (stepI h).1 h with
        | true => rfl
        | false =>
          rw [hsp] at a1
          simp only [cond_false, decide_eq_true_eq] at a1
          exact decide_eq_true (by omega)
      rw [this]
      rfl
theorem from_ok {h k i : Int} {s : Subset.D} (h1 : IntKind.u64.has s.1) (h2 : IntKind.u64.has s.2) (hi : IntKind.u64.has i) (hn : noPr h k i = false) (hm : mayI h k s = (true, 0)) (hh : hasI h s i = (true, 0)) (hs : s.2 ≠ 0) :
    k ≠ 1 ∧ (besI h (leafI h i).1 s.2).2 = 0 ∧ (pathI h (fromJ h i s) s.2).2 = 0 ∧ (s.1, fromJ h i s) ∈ (pairsL h k i).1 ∧ fromJ h i s ≠ 0 ∧ (pathI h s.1 (fromJ h i s)).1 ++ (pathI h (fromJ h i s) s.2).1 = (pathI h s.1 s.2).1 := by
  have hk : k ≠ 1 := by rintro rfl; exact hs (may_whole hm)
  obtain ⟨n1, n2⟩ := noPr_ok hn
  obtain ⟨m1, m2, m3, _, _⟩ := many_ok n1
  obtain ⟨c0, c1, c2⟩ := hasU hi
  have hok : okS h.toNat s.1.toNat s.2.toNat = true := by
    have := (may_sub hm).1
    rw [subE_nat h1 h2] at this
    cases ho : okS h.toNat s.1.toNat s.2.toNat with
    | true => rfl
    | false => rw [ho] at this; cases this
  have hlo : leafOk h.toNat i.toNat = true := by rw [leaf_ne c0 c1] at n2; simpa using n2
  have hN : hasN h.toNat s.1.toNat s.2.toNat i.toNat = true := by
    rw [has_nat h1 h2 hi, hok, hlo] at hh
    exact congrArg Prod.fst hh
  obtain ⟨j1', j2', _⟩ := ent_J h1 h2 hi hn hk hs hok hN
  refine ⟨hk, j1', j2', ?_⟩
  obtain ⟨a0, a1, a2⟩ := hasU h1
  obtain ⟨b0, b1, b2⟩ := hasU h2
  obtain ⟨l1, l2, l3⟩ := leafOk_iff.1 hlo
  have el := leaf_val c0 c1 hlo
  obtain ⟨I, J⟩ := s
  simp only at h1 h2 hs hok hN b0 b1 b2 a0 a1 a2 hm j1' j2' ⊢
  have hJ0 : J.toNat ≠ 0 := fun e => hs (by rw [b2, e]; rfl)
  obtain ⟨k1, k2⟩ := okS_iff.1 hok
  obtain ⟨j1, j2, j3⟩ := k2.resolve_left hJ0
  unfold hasN at hN
  simp only [Bool.and_eq_true, Bool.or_eq_true, Bool.not_eq_true', beq_iff_eq] at hN
  have hna := hN.2.resolve_left hJ0
  have hia := hN.1
  obtain ⟨H, rfl⟩ := Int.eq_ofNat_of_zero_le (show 0 ≤ h by omega)
  obtain ⟨Jn, rfl⟩ := Int.eq_ofNat_of_zero_le b0
  obtain ⟨In, rfl⟩ := Int.eq_ofNat_of_zero_le a0
  simp only [Int.toNat_natCast] at *
  have a : LeafAt H i.toNat := ⟨l1, l2, l3⟩
  obtain ⟨q, q1, q2, q3, q4, q5⟩ := beside_nat a j1 hna
  have ef : fromJ (H : Int) i ((In : Int), (Jn : Int)) = ((Jn / 2 ^ (q - 1) : Nat) : Int) := by
    unfold fromJ
    show (besI (H : Int) (leafI (H : Int) i).1 (Jn : Int)).1 = _
    rw [el, q5]
  have hf0 : Jn / 2 ^ (q - 1) ≠ 0 := div_pos hJ0 (by omega)
  have hfl : (Jn / 2 ^ (q - 1)).log2 = Jn.log2 - (q - 1) := log2_div hJ0 (by omega)
  obtain ⟨_, _, _, jlt⟩ := okN_iff.1 j1
  have hDl := (okN_log (h := H) hJ0).1 jlt
  have hl := a.log
  have hL0 := leafN_ne (h := H) (i := i.toNat)
  obtain ⟨i1, i2⟩ := abv_iff.1 hia
  obtain ⟨x1, x2⟩ := abv_iff.1 j2
  rw [hl] at i1 i2
  obtain ⟨_, _, iI, _⟩ := okN_iff.1 k1
  have f1 : okN H (Jn / 2 ^ (q - 1)) = true := okN_iff.2 ⟨l1, l2, Nat.pos_of_ne_zero hf0, (okN_log hf0).2 (by omega)⟩
  have f2 : abv (Jn / 2 ^ (q - 1)) Jn = true := abv_iff.2 ⟨by omega, by rw [hfl, show Jn.log2 - (Jn.log2 - (q - 1)) = q - 1 by omega]⟩
  rw [ef] at j2' ⊢
  generalize hfe : Jn / 2 ^ (q - 1) = f at *
  generalize hLe : leafN H i.toNat = L at *
  -- the leaf's node of that depth is its sibling
  have hd : f.log2 ≤ H := by omega
  have eA : L / 2 ^ (H - Jn.log2) / 2 ^ (q - 1) = L / 2 ^ (H - f.log2) := by rw [div_div_pow]; congr 2; omega
  have hsib : f = (L / 2 ^ (H - f.log2)) ^^^ 1 := by
    refine sib ?_ (by rw [← eA]; exact q4)
    rw [← eA, ← hfe]
    have e1 : L / 2 ^ (H - Jn.log2) / 2 ^ (q - 1) / 2 = L / 2 ^ (H - Jn.log2) / 2 ^ q := by rw [show (2 : Nat) = 2 ^ 1 from rfl, div_div_pow]; congr 2; omega
    have e2 : Jn / 2 ^ (q - 1) / 2 = Jn / 2 ^ q := by rw [show (2 : Nat) = 2 ^ 1 from rfl, div_div_pow]; congr 2; omega
    rw [e1, e2, q3]
  -- it is below I
  have hlt : In.log2 < f.log2 := by
    rcases Nat.lt_or_ge In.log2 f.log2 with h | h
    · exact h
    · exfalso
      -- then f is above the leaf
      have fx := (abv_iff.1 f2).2
      have e : Jn.log2 - f.log2 = (Jn.log2 - In.log2) + (In.log2 - f.log2) := by omega
      rw [e, ← div_div_pow, x2] at fx
      have e3 : L / 2 ^ (H - f.log2) = f := by
        have e : H - f.log2 = (H - In.log2) + (In.log2 - f.log2) := by omega
        rw [e, ← div_div_pow, i2, fx]
      rw [e3] at hsib
      exact (xor_one f).2 hsib.symm
  have hIf : abv In f = true := by
    refine abv_iff.2 ⟨by omega, ?_⟩
    have x3 := x2
    have e : Jn.log2 - In.log2 = (Jn.log2 - f.log2) + (f.log2 - In.log2) := by omega
    rw [e, ← div_div_pow, (abv_iff.1 f2).2] at x3
    exact x3
  refine ⟨?_, by exact_mod_cast hf0, (path_join k1 f1 j1 hIf f2).2⟩
  have hpr : prP (H : Int) ((leafN H i.toNat : Nat) : Int) (In.log2 : Int) (f.log2 : Int) = ((In : Int), (f : Int)) := by
    rw [prP_nat l2 l3 (t := In.log2) (d := f.log2) hlt hd, hLe, ← hsib, i2]
  have hkeep : keepB (H : Int) k ((In : Int), (f : Int)) = true := by
    unfold keepB
    cases hk3 : k == 3 with
    | false => rfl
    | true =>
      have hk3' : k = 3 := eq_of_beq hk3
      have hu : useI (H : Int) ((In : Int), (Jn : Int)) = (true, 0) := by
        rw [hk3'] at hm
        unfold mayI at hm
        cases hmb : mayB3 (H : Int) 3 ((In : Int), (Jn : Int)) with
        | true => rw [hmb] at hm; cases hm
        | false => rw [hmb] at hm; exact hm
      have dn : ∀ {n : Nat}, okN H n = true → depthI (H : Int) (n : Int) = ((n.log2 : Int), 0) := fun {n} hn => by
        unfold depthI
        rw [chk_natOk hn, depI_nat (by have := (okN_iff.1 hn).2.2.1; omega)]; rfl
      have hb34 : f < 2 ^ 64 := by
        have := (okN_iff.1 f1).2.2.2
        have : 2 ^ (H + 1) ≤ 2 ^ 33 := Nat.pow_le_pow_right (by decide) (by omega)
        omega
      have hsf : subE (H : Int) ((In : Int), (f : Int)) = 0 := by
        rw [subE_nat (s := ((In : Int), (f : Int))) h1 (U64 hb34)]
        simp only [Int.toNat_natCast]
        have hne : In ≠ f := by rintro rfl; omega
        rw [okS_iff.2 ⟨k1, .inr ⟨f1, hIf, hne⟩⟩]; rfl
      have := use_near hu hs (by exact_mod_cast hf0) hsf (by rw [dn f1]) (by rw [dn f1, dn j1]; simp only; omega)
      rw [this]; rfl
  unfold pairsL
  rw [hn, show (k == 1) = false by simpa using hk, el]
  simp only [cond_false]
  rw [← hpr] at hkeep ⊢
  rw [hLe] at hkeep ⊢
  exact outG_at hlt (by rw [Int.toNat_natCast]; exact hd) hkeep (Nat.zero_le _) (by rw [Int.toNat_natCast]; omega)
/-- One without J. -/
theorem from_zero {h k i : Int} {s : Subset.D} (h1 : IntKind.u64.has s.1) (h2 : IntKind.u64.has s.2) (hi : IntKind.u64.has i) (hn : noPr h k i = false) (hm : mayI h k s = (true, 0)) (hh : hasI h s i = (true, 0)) (hs : s.2 = 0) : s ∈ (pairsL h k i).1 := by
  obtain ⟨n1, n2⟩ := noPr_ok hn
  obtain ⟨m1, m2, m3, _, _⟩ := many_ok n1
  obtain ⟨c0, c1, c2⟩ := hasU hi
  obtain ⟨a0, a1, a2⟩ := hasU h1
  have hok : okS h.toNat s.1.toNat s.2.toNat = true := by
    have := (may_sub hm).1
    rw [subE_nat h1 h2] at this
    cases ho : okS h.toNat s.1.toNat s.2.toNat with
    | true => rfl
    | false => rw [ho] at this; cases this
  have hlo : leafOk h.toNat i.toNat = true := by rw [leaf_ne c0 c1] at n2; simpa using n2
  have hN : hasN h.toNat s.1.toNat s.2.toNat i.toNat = true := by
    rw [has_nat h1 h2 hi, hok, hlo] at hh
    exact congrArg Prod.fst hh
  obtain ⟨l1, l2, l3⟩ := leafOk_iff.1 hlo
  have el := leaf_val c0 c1 hlo
  obtain ⟨I, J⟩ := s
  simp only at hs
  subst hs
  unfold pairsL
  rw [hn]
  simp only [cond_false]
  cases hk : k == 1 with
  | true =>
    simp only [cond_true]
    unfold hasN at hN
    simp only [Bool.and_eq_true] at hN
    obtain ⟨i1, i2⟩ := abv_iff.1 hN.1
    have a : LeafAt h.toNat i.toNat := ⟨l1, l2, l3⟩
    rw [a.log] at i1 i2
    rw [wG_eq, List.nil_append, List.mem_map]
    refine ⟨I.toNat.log2, List.mem_range.2 (by omega), ?_⟩
    have hlt := a.lt
    rw [el, Nat.zero_add, show h - ((I.toNat.log2 : Nat) : Int) = ((h.toNat - I.toNat.log2 : Nat) : Int) by omega, shr_nat (by omega) (by omega), Int.toNat_natCast, Int.toNat_natCast, i2, ← a2]
  | false =>
    simp only [cond_false]
    apply outG_sub
    have hI : I = 1 := by
      unfold mayI at hm
      cases hmb : mayB3 h k (I, 0) with
      | true => rw [hmb] at hm; cases hm
      | false =>
        rw [hmb, hk] at hm
        simp only [cond_false] at hm
        cases hk2 : k == 2 with
        | true =>
          rw [hk2] at hm
          have := congrArg Prod.fst hm
          simpa using this
        | false =>
          rw [hk2] at hm
          simp only [cond_false] at hm
          unfold useI at hm
          cases hsz : subE h (I, 0) != 0 with
          | true => rw [hsz] at hm; cases hm
          | false =>
            rw [hsz] at hm
            have := congrArg Prod.fst hm
            simpa using this
    rw [hI]
    exact List.mem_singleton.2 rfl
end Go.AM.Seat
