/- The seat: contracts and plain laws, in order (cut out of all texts by a program). -/
import Derived.Test.YtoeijiackpanoaaGreatSl2
set_option linter.unusedVariables false
set_option linter.unusedSimpArgs false
set_option maxRecDepth 100000
namespace Go.AM.Seat
open Go Go.AM Go.Proofs


abbrev live314 : List (Nat × Dir) := [(0, .keep), (7, .keep), (8, .keep), (9, .keep), (10, .keep), (54, .keep), (55, .keep), (56, .keep)]
def Γ314 : Orc := orc [(N334, s310), (N335, s318), (N336, s312), (N337, s337), (N338, s311)]
def vs314 (h : Int) (s : Subset.D) (k : Int) (sd : SV) (e : Int) (l : List Subset.D) (n i : Int) : List AV := [.one (.int .i64 h), .own [.int .u64 s.1, .int .u64 s.2], .one (.int .i64 k), .one sd, .one (.int .i64 e), .one (.sl true Subset none l), .one (.int .i64 n), .one (.int .i64 i)]
noncomputable abbrev lp314 (Λ : Lam AV) (K : AE → List AV → Option AV) (fuel : Nat) (vs : List AV) : Option AV := loopN (aexec tb Γ314 Λ ⟨102, 0, [(0, live314)]⟩ (loopK F314 0).2 0) 102 0 live314 K fuel vs
def h0B (s x : Subset.D) : Bool := bif s.2 == 0 then x.2 == 0 else false
def h1B (s x : Subset.D) : Bool := bif s.2 != 0 then x.2 != 0 else false
theorem step314 (h : Int) (s : Subset.D) (k : Int) (e : Int) (l : List Subset.D) (n i : Int) (Λ : Lam AV) (fuel : Nat) (K : AE → List AV → Option AV) : lp314 Λ K (fuel + 1) (vs314 h s k .nils e l n i) =
    bif decide (i < n) then bif inB i l.length then
      bif (sAt l i).1 != s.1 then lp314 Λ K fuel (vs314 h s k .nils e l n (IntKind.i64.wrap (i + 1))) else
      bif h0B s (sAt l i) then K .ret (vs314 h s i .nils 0 l n i) else
      bif decide (1 ≤ s.2) || !boolBeq (h1B s (sAt l i)) true then
        bif (bif h1B s (sAt l i) then isI (sAt l i).2 s.2 else false) then K .ret (vs314 h s i (.sl true I none (pathI h (sAt l i).2 s.2).1) 0 l n i)
        else lp314 Λ K fuel (vs314 h s k .nils e l n (IntKind.i64.wrap (i + 1)))
      else none
    else none else K (.exit 0) (vs314 h s k .nils e l n i) := by kernel_rfl
def hitB (s x : Subset.D) : Bool := x.1 == s.1 && bif s.2 == 0 then x.2 == 0 else bif x.2 != 0 then isI x.2 s.2 else false
def retE (h : Int) (s : Subset.D) (l : List Subset.D) (n : Int) (K : AE → List AV → Option AV) (j : Nat) : Option AV :=
  bif s.2 == 0 then K .ret (vs314 h s j .nils 0 l n j) else K .ret (vs314 h s j (.sl true I none (pathI h (sAt l j).2 s.2).1) 0 l n j)
def Λ314 : Lam AV := fun cur vs K =>
  match cur, vs with
  | 0, [.one (.int .i64 h), .own [.int .u64 a, .int .u64 b], .one (.int .i64 k), .one .nils, .one (.int .i64 e), .one (.sl true (.pair (.int .u64) (.int .u64)) none l), .one (.int .i64 n), .one (.int .i64 0)] =>
    bif decide (n = l.length) && decide (n ≤ 9223372036854775807) && decide (0 ≤ b) then allK (retE h (a, b) l n K) (K (.exit 0) (vs314 h (a, b) k .nils e l n n)) (fun j => hitB (a, b) (sAt l j)) n.toNat 0 else none
  | _, _ => none
theorem is_guard {s x : Int × Int} (h : 0 ≤ s.2) : (decide (1 ≤ s.2) || !boolBeq (h1B s x) true) = true := by
  cases e : s.2 != 0 with
  | false => unfold h1B; rw [e]; cases decide (1 ≤ s.2) <;> rfl
  | true => have : s.2 ≠ 0 := ne_of e; rw [decide_eq_true (show 1 ≤ s.2 by omega)]; rfl
theorem loop314 : LoopP tb Γ314 Λ314 ⟨102, 0, [(0, live314)]⟩ (loopK F314 0) := by
  intro vs K out e
  have hcur : (loopK F314 0).1 = 0 := by kernel_rfl
  rw [hcur] at e ⊢
  unfold Λ314 at e
  split at e
  · rename_i h a b k e0 l n _
    cases hc : (decide (n = l.length) && decide (n ≤ 9223372036854775807) && decide (0 ≤ b)) with
    | false => rw [hc] at e; cases e
    | true =>
      rw [hc] at e
      simp only [cond_true] at e
      simp only [Bool.and_eq_true, decide_eq_true_eq] at hc
      obtain ⟨⟨rfl, hmax⟩, hb⟩ := hc
      refine upLoop (α := Unit) (n := l.length) (F := fun fuel _ j => lp314 Λ314 K fuel (vs314 h (a, b) k .nils e0 l l.length j))
        (G := fun j _ => allK (retE h (a, b) l l.length K) (K (.exit 0) (vs314 h (a, b) k .nils e0 l l.length l.length)) (fun j => hitB (a, b) (sAt l j)) (l.length - j) j)
        (fun fuel _ => ?_) (fun _ j hj => ?_) l.length 0 () out (by omega) e
      · simp only [step314, nlt_dec, cond_false, Nat.sub_self, allK]
      · have hm : l.length - j = (l.length - (j + 1)) + 1 := by omega
        have hg := is_guard (s := (a, b)) (x := sAt l j) hb
        have ew : IntKind.i64.wrap ((j : Int) + 1) = ((j + 1 : Nat) : Int) := wrap64 (n := (j : Int) + 1) (by omega) (by omega)
        cases hx : hitB (a, b) (sAt l j) with
        | true =>
          right; intro fuel
          simp only [hm, allK, hx, cond_true, step314, lt_dec hj, inB_lt hj, hg]
          unfold hitB at hx
          simp only [Bool.and_eq_true] at hx
          obtain ⟨h1, h2⟩ := hx
          have h1' : ((sAt l j).1 != a) = false := by unfold bne; rw [show ((sAt l j).1 == a) = true from h1]; rfl
          unfold retE h0B h1B bne
          cases hz : b == 0 with
          | true =>
            simp only [hz, cond_true] at h2
            simp only [bne] at h1'
            simp only [h1', hz, h2, cond_false, cond_true]
          | false =>
            simp only [hz, cond_false] at h2
            simp only [bne] at h1'
            cases hy : (sAt l j).2 != 0 with
            | false => rw [hy] at h2; cases h2
            | true =>
              rw [hy] at h2
              simp only [bne] at hy
              simp only [cond_true] at h2
              simp only [h1', hz, hy, h2, cond_false, cond_true, Bool.not_false]
        | false =>
          left; refine ⟨(), fun fuel => ?_, ?_⟩
          · simp only [step314, lt_dec hj, inB_lt hj, cond_true, hg, ew]
            unfold hitB at hx
            unfold h0B h1B bne
            cases h1 : (sAt l j).1 == a with
            | false => rfl
            | true =>
              simp only [h1, Bool.true_and] at hx
              simp only [Bool.not_true, cond_false]
              cases hz : b == 0 with
              | true => simp only [hz, cond_true] at hx; simp only [hx, cond_true, cond_false, Bool.not_true]
              | false =>
                simp only [hz, cond_false] at hx
                simp only [cond_false, Bool.not_false, cond_true]
                simp only [bne] at hx
                cases hy : (sAt l j).2 == 0 with
                | true => rfl
                | false => rw [hy] at hx; simp only [Bool.not_false, cond_true] at hx; simp only [hx, Bool.not_false, cond_true, cond_false]
          · simp only [hm, allK, hx, cond_false]
  · cases e
def refE (h k i : Int) (s : Subset.D) : Option AV :=
  bif (bif bif (pairsL h k i).2 != 0 then true else (mayI h k s).2 != 0 then true else !(mayI h k s).1) then some (ren 0 [] 1) else bif !(hasI h s i).1 then some (ren 0 [] 4) else
    bif decide (((pairsL h k i).1.length : Int) = (pairsL h k i).1.length) && decide (((pairsL h k i).1.length : Int) ≤ 9223372036854775807) && decide (0 ≤ s.2) then
      allK (fun j => bif s.2 == 0 then some (ren j [] 0) else some (ren j (pathI h (sAt (pairsL h k i).1 j).2 s.2).1 0)) (some (ren 0 [] 4)) (fun j => hitB s (sAt (pairsL h k i).1 j)) (((pairsL h k i).1.length : Int)).toNat 0 else none
theorem r314 (h k i : Int) (s : Subset.D) : run Γ314 Λ314 [(0, live314)] F314 (encA [.v I, .v I, .v U, .v Subset] (h, k, i, s)) [.id, .sl true I, .id] = refE h k i s := by kernel_rfl

theorem xor_div {a b : Nat} (k : Nat) : (a ^^^ b) / 2 ^ k = (a / 2 ^ k) ^^^ (b / 2 ^ k) := by
  rw [← Nat.shiftRight_eq_div_pow, ← Nat.shiftRight_eq_div_pow, ← Nat.shiftRight_eq_div_pow, Nat.shiftRight_xor_distrib]
theorem xor_zero {a b : Nat} : a ^^^ b = 0 ↔ a = b := by
  constructor
  · intro h
    have : a ^^^ b ^^^ b = 0 ^^^ b := by rw [h]
    rwa [Nat.xor_assoc, Nat.xor_self, Nat.xor_zero, Nat.zero_xor] at this
  · rintro rfl; exact Nat.xor_self a
theorem agree_iff {a b k : Nat} : a / 2 ^ k = b / 2 ^ k ↔ a ^^^ b < 2 ^ k := by
  rw [← xor_zero, ← xor_div, Nat.div_eq_zero_iff_lt (Nat.two_pow_pos k)]
theorem xorI_nat {a b : Nat} (ha : a < 2 ^ 64) (hb : b < 2 ^ 64) : xorI a b = ((a ^^^ b : Nat) : Int) := by
  unfold xorI
  have e1 : (BitVec.ofInt 64 (a : Int)).toNat = a := by rw [BitVec.toNat_ofInt]; omega
  have e2 : (BitVec.ofInt 64 (b : Int)).toNat = b := by rw [BitVec.toNat_ofInt]; omega
  rw [BitVec.toNat_xor, e1, e2, wrapU]
  · omega
  · have := Nat.xor_lt_two_pow ha hb; omega
theorem depI_nat {n : Nat} (h : n ≠ 0) : depI (n : Int) = (n.log2 : Int) := by rw [dep_nat (by omega), Int.toNat_natCast]
theorem chk_natOk {H n : Nat} (h : okN H n = true) : (chkI (H : Int) (n : Int) != 0) = false := by rw [chk_ne (by omega), Int.toNat_natCast, Int.toNat_natCast, h]; rfl
/-- BESIDE: the last node of J's chain that is not of the leaf's. -/
theorem beside_nat {H x J : Nat} (a : LeafAt H x) (hJ : okN H J = true) (hn : abv J (leafN H x) = false) : ∃ q, 1 ≤ q ∧ q ≤ J.log2 ∧
    leafN H x / 2 ^ (H - J.log2) / 2 ^ q = J / 2 ^ q ∧ leafN H x / 2 ^ (H - J.log2) / 2 ^ (q - 1) ≠ J / 2 ^ (q - 1) ∧
    besI (H : Int) ((leafN H x : Nat) : Int) (J : Int) = (((J / 2 ^ (q - 1) : Nat) : Int), 0) := by
  obtain ⟨_, _, j1, j2⟩ := okN_iff.1 hJ
  have hj0 : J ≠ 0 := by omega
  have hD := (okN_log (h := H) hj0).1 j2
  have hl := a.log
  have hL0 := leafN_ne (h := H) (i := x)
  have hb := a.lt
  have h32 := a.h2
  have h1 := a.h1
  have hJ64 : J < 2 ^ 64 := by
    have : 2 ^ (H + 1) ≤ 2 ^ 33 := Nat.pow_le_pow_right (by decide) (by omega)
    omega
  have hLok : okN H (leafN H x) = true := okN_iff.2 ⟨a.h1, a.h2, by omega, (okN_log hL0).2 (by omega)⟩
  generalize hLe : leafN H x = L at *
  generalize hDe : J.log2 = D at *
  have hA0 : L / 2 ^ (H - D) ≠ 0 := div_pos hL0 (by omega)
  have hAl : (L / 2 ^ (H - D)).log2 = D := by rw [log2_div hL0 (by omega)]; omega
  have hA64 : L / 2 ^ (H - D) < 2 ^ 64 := Nat.lt_of_le_of_lt (Nat.div_le_self _ _) (by omega)
  have hne : L / 2 ^ (H - D) ≠ J := by
    intro e
    have : abv J L = true := abv_iff.2 ⟨by omega, by rw [hDe, hl]; exact e⟩
    rw [this] at hn; cases hn
  generalize hAe : L / 2 ^ (H - D) = A at *
  have hx0 : A ^^^ J ≠ 0 := fun e => hne (xor_zero.1 e)
  have htop : A / 2 ^ D = J / 2 ^ D := by
    have k1 := log2_le hA0
    have k2 := lt_log2 (n := A)
    have k3 := log2_le hj0
    have k4 := lt_log2 (n := J)
    rw [hAl] at k1 k2
    rw [hDe] at k3 k4
    rw [Nat.pow_succ] at k2 k4
    rw [Nat.div_eq_of_lt_le (k := 1) (by omega) (by omega), Nat.div_eq_of_lt_le (k := 1) (by omega) (by omega)]
  have hxl : (A ^^^ J).log2 < D := (Nat.log2_lt hx0).2 (agree_iff.1 htop)
  have hx64 : A ^^^ J < 2 ^ 64 := Nat.xor_lt_two_pow hA64 hJ64
  refine ⟨(A ^^^ J).log2 + 1, by omega, by omega, agree_iff.2 lt_log2, fun e => ?_, ?_⟩
  · rw [Nat.add_sub_cancel] at e
    have := agree_iff.1 e
    have := log2_le hx0
    omega
  · rw [Nat.add_sub_cancel]
    have m1 : minI (H : Int) (D : Int) = (D : Int) := by unfold minI; split <;> omega
    have e1 : meetI (H : Int) (L : Int) (J : Int) = (((A / 2 ^ ((A ^^^ J).log2 + 1) : Nat) : Int), 0) := by
      unfold meetI bothI both
      rw [chk_natOk hLok, chk_natOk hJ, depI_nat hL0, depI_nat hj0, hl, hDe, m1]
      simp only [cond_false]
      have s1 : shrI (L : Int) ((H - D : Nat) : Int) = (A : Int) := by rw [shr_nat (by omega) (by omega), Int.toNat_natCast, Int.toNat_natCast, hAe]
      have s2 : shrI (J : Int) ((0 : Nat) : Int) = (J : Int) := by rw [shr_nat (by omega) (by omega), Int.toNat_natCast, Int.toNat_natCast, Nat.pow_zero, Nat.div_one]
      rw [show (H : Int) - (D : Int) = ((H - D : Nat) : Int) by omega, show (D : Int) - (D : Int) = ((0 : Nat) : Int) by omega, s1, s2]
      rw [xorI_nat hA64 hJ64, lenI_nat hx0, show ((A ^^^ J).log2 : Int) + 1 = (((A ^^^ J).log2 + 1 : Nat) : Int) by omega, shr_nat (by omega) (by omega), Int.toNat_natCast, Int.toNat_natCast]
      rfl
    have hm0 : A / 2 ^ ((A ^^^ J).log2 + 1) ≠ 0 := div_pos hA0 (by omega)
    have hml : (A / 2 ^ ((A ^^^ J).log2 + 1)).log2 = D - ((A ^^^ J).log2 + 1) := by rw [log2_div hA0 (by omega), hAl]
    have e2 : depthI (H : Int) (((A / 2 ^ ((A ^^^ J).log2 + 1) : Nat) : Int)) = (((D - ((A ^^^ J).log2 + 1) : Nat) : Int), 0) := by
      unfold depthI
      rw [chk_natOk (okN_iff.2 ⟨a.h1, a.h2, Nat.pos_of_ne_zero hm0, (okN_log hm0).2 (by omega)⟩), depI_nat hm0, hml]; rfl
    unfold besI
    rw [e1, e2]
    show upI (H : Int) (J : Int) (IntKind.i64.wrap (((D - ((A ^^^ J).log2 + 1) : Nat) : Int) + 1)) = _
    rw [wrap64 (by omega) (by omega)]
    unfold upI outUp
    rw [chk_natOk hJ, depI_nat hj0, hDe, decide_eq_false (show ¬ ((D - ((A ^^^ J).log2 + 1) : Nat) : Int) + 1 < 0 by omega), decide_eq_false (show ¬ ((D - ((A ^^^ J).log2 + 1) : Nat) : Int) + 1 > (D : Int) by omega)]
    show (shrI (J : Int) ((D : Int) - (((D - ((A ^^^ J).log2 + 1) : Nat) : Int) + 1)), (0 : Int)) = _
    rw [show (D : Int) - (((D - ((A ^^^ J).log2 + 1) : Nat) : Int) + 1) = (((A ^^^ J).log2 : Nat) : Int) by omega, shr_nat (by omega) (by omega), Int.toNat_natCast, Int.toNat_natCast]
theorem allK_idxP {R : Nat → Option AV} {E : Option AV} {p : Int × Int → Bool} (l : List (Int × Int)) : ∀ (m j : Nat), j + m = l.length →
    allK R E (fun j => p (sAt l j)) m j = bif decide (idxP p (l.drop j) j < 0) then E else R (idxP p (l.drop j) j).toNat := by
  intro m
  induction m with
  | zero =>
    intro j hj
    rw [List.drop_of_length_le (by omega)]; rfl
  | succ m ih =>
    intro j hj
    have h1 : j < l.length := by omega
    rw [allK, ih (j + 1) (by omega), sAt_drop h1]
    rcases Bool.eq_false_or_eq_true (p (sAt l j)) with hx | hx
    · simp only [idxP, hx, cond_true]
      rw [decide_eq_false (show ¬ (j : Int) < 0 by omega), Int.toNat_natCast]; rfl
    · simp only [idxP, hx, cond_false]; rfl
theorem allK_all {R : Nat → Option AV} {E : Option AV} {p : Int × Int → Bool} (l : List (Int × Int)) : allK R E (fun j => p (sAt l j)) (l.length : Int).toNat 0 = bif decide (idxP p l 0 < 0) then E else R (idxP p l 0).toNat := by
  rw [Int.toNat_natCast, allK_idxP l l.length 0 (by omega), List.drop_zero]; rfl
theorem idxS_P (s : Int × Int) : ∀ (l : List (Int × Int)) (i : Int), idxS s l i = idxP (fun x => s.1 == x.1 && s.2 == x.2) l i := by
  intro l
  induction l with
  | nil => intro i; rfl
  | cons x l ih => intro i; simp only [idxS, idxP, ih]
theorem idxP_congr {p q : Int × Int → Bool} : ∀ {l : List (Int × Int)} (i : Int), (∀ x ∈ l, p x = q x) → idxP p l i = idxP q l i := by
  intro l
  induction l with
  | nil => intro i _; rfl
  | cons x l ih =>
    intro i h
    simp only [idxP]
    rw [h x (by simp), ih (i + 1) fun y hy => h y (by simp [hy])]
/-- Which pair of a leaf's is hit: just the one beside. -/
theorem hit_beside {H x J t d : Nat} (a : LeafAt H x) (hJ : okN H J = true) (hn : abv J (leafN H x) = false) (ht : t < d) (hd : d ≤ H) {q : Nat} (q1 : 1 ≤ q) (q2 : q ≤ J.log2)
    (q3 : leafN H x / 2 ^ (H - J.log2) / 2 ^ q = J / 2 ^ q) (q4 : leafN H x / 2 ^ (H - J.log2) / 2 ^ (q - 1) ≠ J / 2 ^ (q - 1)) :
    abv ((leafN H x / 2 ^ (H - d)) ^^^ 1) J = (J / 2 ^ (q - 1) == (leafN H x / 2 ^ (H - d)) ^^^ 1) := by
  obtain ⟨_, _, j1, j2⟩ := okN_iff.1 hJ
  have hj0 : J ≠ 0 := by omega
  have hD := (okN_log (h := H) hj0).1 j2
  have hl := a.log
  have hL0 := leafN_ne (h := H) (i := x)
  generalize leafN H x = L at *
  have ld : (L / 2 ^ (H - d)).log2 = d := by rw [log2_div hL0 (by omega)]; omega
  have nd : L / 2 ^ (H - d) ≠ 0 := div_pos hL0 (by omega)
  have nd2 : 2 ≤ L / 2 ^ (H - d) := by
    have := log2_le nd
    rw [ld] at this
    have : 2 ^ 1 ≤ 2 ^ d := Nat.pow_le_pow_right (by decide) (by omega)
    omega
  have lx : ((L / 2 ^ (H - d)) ^^^ 1).log2 = d := by rw [xor_one_log2 nd2, ld]
  apply Bool.eq_iff_iff.2
  rw [abv_iff, beq_iff_eq, lx]
  constructor
  · rintro ⟨h1, h2⟩
    -- the depth is the one beside
    have ek : L / 2 ^ (H - J.log2) / 2 ^ (J.log2 - d) = L / 2 ^ (H - d) := by rw [div_div_pow]; congr 2; omega
    have n1 : L / 2 ^ (H - J.log2) / 2 ^ (J.log2 - d) ≠ J / 2 ^ (J.log2 - d) := by rw [ek, h2]; exact (xor_one _).2.symm
    have n2 : L / 2 ^ (H - J.log2) / 2 ^ (J.log2 - d + 1) = J / 2 ^ (J.log2 - d + 1) := by
      rw [← div_div_pow, ek, ← div_div_pow J, h2, Nat.pow_one, (xor_one _).1]
    have m1 := agree_iff.1 q3
    have m2 : ¬ _ := fun h => q4 (agree_iff.2 h)
    have m3 := agree_iff.1 n2
    have m4 : ¬ _ := fun h => n1 (agree_iff.2 h)
    have : J.log2 - d = q - 1 := by
      rcases Nat.lt_trichotomy (J.log2 - d) (q - 1) with h | h | h
      · exact absurd (Nat.lt_of_lt_of_le m3 (Nat.pow_le_pow_right (by decide) (by omega))) m2
      · exact h
      · exact absurd (Nat.lt_of_lt_of_le m1 (Nat.pow_le_pow_right (by decide) (by omega))) m4
    rw [← this]; exact h2
  · intro h
    have hlog : (J / 2 ^ (q - 1)).log2 = J.log2 - (q - 1) := log2_div hj0 (by omega)
    rw [h, lx] at hlog
    refine ⟨by omega, ?_⟩
    rw [show J.log2 - d = q - 1 by omega]; exact h
theorem ent_J {h k i : Int} {s : Int × Int} (h1 : IntKind.u64.has s.1) (h2 : IntKind.u64.has s.2) (hi : IntKind.u64.has i) (hn : noPr h k i = false) (hk : k ≠ 1) (hs : s.2 ≠ 0)
    (hok : okS h.toNat s.1.toNat s.2.toNat = true) (hh : hasN h.toNat s.1.toNat s.2.toNat i.toNat = true) :
    (besI h (leafI h i).1 s.2).2 = 0 ∧ (pathI h (fromJ h i s) s.2).2 = 0 ∧ ∀ y ∈ (pairsL h k i).1, hitB s y = (s.1 == y.1 && fromJ h i s == y.2) := by
  obtain ⟨n1, n2⟩ := noPr_ok hn
  obtain ⟨m1, m2, m3, _, _⟩ := many_ok n1
  obtain ⟨c0, c1, c2⟩ := hasU hi
  obtain ⟨b0, b1, b2⟩ := hasU h2
  have hlo : leafOk h.toNat i.toNat = true := by rw [leaf_ne c0 c1] at n2; simpa using n2
  obtain ⟨l1, l2, l3⟩ := leafOk_iff.1 hlo
  have el := leaf_val c0 c1 hlo
  obtain ⟨I, J⟩ := s
  simp only at h1 h2 hs hok hh b0 b1 b2 ⊢
  have hJ0 : J.toNat ≠ 0 := fun e => hs (by rw [b2, e]; rfl)
  obtain ⟨k1, k2⟩ := okS_iff.1 hok
  obtain ⟨j1, j2, j3⟩ := k2.resolve_left hJ0
  unfold hasN at hh
  simp only [Bool.and_eq_true, Bool.or_eq_true, Bool.not_eq_true', beq_iff_eq] at hh
  have hna := hh.2.resolve_left hJ0
  have hia := hh.1
  obtain ⟨H, rfl⟩ := Int.eq_ofNat_of_zero_le (show 0 ≤ h by omega)
  obtain ⟨Jn, rfl⟩ := Int.eq_ofNat_of_zero_le b0
  simp only [Int.toNat_natCast] at *
  have a : LeafAt H i.toNat := ⟨l1, l2, l3⟩
  obtain ⟨q, q1, q2, q3, q4, q5⟩ := beside_nat a j1 hna
  have ef : fromJ (H : Int) i (I, (Jn : Int)) = ((Jn / 2 ^ (q - 1) : Nat) : Int) := by
    unfold fromJ
    show (besI (H : Int) (leafI (H : Int) i).1 (Jn : Int)).1 = _
    rw [el, q5]
  have hf0 : Jn / 2 ^ (q - 1) ≠ 0 := div_pos hJ0 (by omega)
  have hfl : (Jn / 2 ^ (q - 1)).log2 = Jn.log2 - (q - 1) := log2_div hJ0 (by omega)
  obtain ⟨_, _, _, jlt⟩ := okN_iff.1 j1
  have hDl := (okN_log (h := H) hJ0).1 jlt
  refine ⟨by rw [el, q5], ?_, fun y hy => ?_⟩
  · rw [ef]
    have f1 : okN H (Jn / 2 ^ (q - 1)) = true := okN_iff.2 ⟨l1, l2, Nat.pos_of_ne_zero hf0, (okN_log hf0).2 (by omega)⟩
    have f2 : abv (Jn / 2 ^ (q - 1)) Jn = true := abv_iff.2 ⟨by omega, by rw [hfl, show Jn.log2 - (Jn.log2 - (q - 1)) = q - 1 by omega]⟩
    unfold pathI bothI both
    have hf1 : (1 : Int) ≤ ((Jn / 2 ^ (q - 1) : Nat) : Int) := by exact_mod_cast Nat.pos_of_ne_zero hf0
    rw [chk_natOk f1, chk_natOk j1, above_nat hf1 (by omega) (by rw [Int.toNat_natCast]; exact b1), Int.toNat_natCast, Int.toNat_natCast, f2]
    rfl
  · rw [ef]
    unfold pairsL at hy
    rw [hn, show (k == 1) = false by simpa using hk, el] at hy
    simp only [cond_false, Int.toNat_natCast] at hy
    have hsz : ((Jn : Int) == 0) = false := beq_eq_false_iff_ne.2 (by omega)
    unfold hitB
    simp only [hsz, cond_false]
    rcases outG_mem (by rw [Int.toNat_natCast]; omega) hy with hy | ⟨t, d, ht, hd, rfl⟩
    · rw [List.mem_singleton] at hy
      subst hy
      have e0 : (((Jn / 2 ^ (q - 1) : Nat) : Int) == 0) = false := beq_eq_false_iff_ne.2 (by intro e; exact hf0 (by exact_mod_cast e))
      show ((1 : Int) == I && (bif (0 : Int) != 0 then _ else false)) = (I == (1 : Int) && (((Jn / 2 ^ (q - 1) : Nat) : Int) == 0))
      rw [e0, Bool.and_false]
      show ((1 : Int) == I && false) = false
      rw [Bool.and_false]
    · rw [Int.toNat_natCast] at hd
      rw [prP_nat l2 l3 ht hd]
      have hx0 : (leafN H i.toNat / 2 ^ (H - d)) ^^^ 1 ≠ 0 := by
        intro h0
        have hl := a.log
        have ld : (leafN H i.toNat / 2 ^ (H - d)).log2 = d := by rw [log2_div leafN_ne (by rw [hl]; omega), hl]; omega
        have nd : leafN H i.toNat / 2 ^ (H - d) ≠ 0 := div_pos leafN_ne (by rw [hl]; omega)
        have nd2 : 2 ≤ leafN H i.toNat / 2 ^ (H - d) := by
          have := log2_le nd
          rw [ld] at this
          have : 2 ^ 1 ≤ 2 ^ d := Nat.pow_le_pow_right (by decide) (by omega)
          omega
        have := xor_one_log2 nd2
        rw [h0, Nat.log2_zero, ld] at this
        omega
      have e1 : ((((leafN H i.toNat / 2 ^ (H - d)) ^^^ 1 : Nat) : Int) != 0) = true := by unfold bne; rw [beq_eq_false_iff_ne.2 (fun e => hx0 (by exact_mod_cast e))]; rfl
      simp only [e1, cond_true]
      unfold isI
      rw [Int.toNat_natCast, Int.toNat_natCast, hit_beside a j1 hna ht hd q1 q2 q3 q4]
      have e2 : ∀ m n : Nat, ((m : Int) == (n : Int)) = (m == n) := fun m n => by apply Bool.eq_iff_iff.2; rw [beq_iff_eq, beq_iff_eq]; omega
      rw [e2, BEq.comm (a := ((leafN H i.toNat / 2 ^ (H - t) : Nat) : Int))]
theorem entry_ref {h k i : Int} {s : Int × Int} (h1 : IntKind.u64.has s.1) (h2 : IntKind.u64.has s.2) (hi : IntKind.u64.has i) (hlen : (pairsL h k i).1.length ≤ 9223372036854775807) : refE h k i s = some (reE (entryI h k i s)) := by
  obtain ⟨c0, c1, c2⟩ := hasU hi
  obtain ⟨b0, b1, b2⟩ := hasU h2
  unfold refE entryI noEn
  cases hp : (pairsL h k i).2 != 0 with
  | true => rfl
  | false =>
    have hn : noPr h k i = false := by
      cases hn : noPr h k i with
      | false => rfl
      | true => unfold pairsL at hp; rw [hn] at hp; cases hp
    have hl := (noPr_ok hn).2
    have hlo : leafOk h.toNat i.toNat = true := by rw [leaf_ne c0 c1] at hl; simpa using hl
    rw [hl]
    cases hm : (mayI h k s).2 != 0 with
    | true => rfl
    | false =>
      cases hm1 : (mayI h k s).1 with
      | false => rfl
      | true =>
        have hmay : mayI h k s = (true, 0) := Prod.ext hm1 (by simpa using hm)
        have hok : okS h.toNat s.1.toNat s.2.toNat = true := by
          unfold mayI at hmay
          cases h3 : mayB3 h k s with
          | true => rw [h3] at hmay; cases hmay
          | false =>
            unfold mayB3 at h3
            cases h4 : schE h k != 0 with
            | true => rw [h4] at h3; cases h3
            | false =>
              rw [h4] at h3
              simp only [cond_false] at h3
              rw [subE_ne h1 h2] at h3
              simpa using h3
        have hv := has_nat (h := h) h1 h2 hi
        rw [hok, hlo] at hv
        simp only [Bool.and_self, cond_true] at hv
        rw [hv]
        cases hh : hasN h.toNat s.1.toNat s.2.toNat i.toNat with
        | false => rfl
        | true =>
          rw [lenMax hlen, decide_eq_true b0]
          simp only [Bool.not_true, cond_false, Bool.and_self, cond_true]
          show allK _ _ _ _ _ = some (reE (bif s.2 != 0 then _ else _))
          cases hz : s.2 == 0 with
          | true =>
            have hz' : (s.2 != 0) = false := by unfold bne; rw [hz]; rfl
            have hs0 : s.2 = 0 := by simpa using hz
            rw [hz']
            simp only [cond_false, cond_true]
            rw [allK_all (p := hitB s) (pairsL h k i).1]
            have e : idxP (hitB s) (pairsL h k i).1 0 = idxS s (pairsL h k i).1 0 := by
              rw [idxS_P]
              apply idxP_congr
              intro y _
              unfold hitB
              rw [hz, hs0, BEq.comm (a := y.1), BEq.comm (a := y.2)]; rfl
            rw [e]
            unfold atI
            cases hd : decide (idxS s (pairsL h k i).1 0 < 0) with
            | true => rfl
            | false =>
              have := of_decide_eq_false hd
              show some (ren (((idxS s (pairsL h k i).1 0).toNat : Nat) : Int) [] 0) = some (ren (idxS s (pairsL h k i).1 0) [] 0)
              rw [show (((idxS s (pairsL h k i).1 0).toNat : Nat) : Int) = idxS s (pairsL h k i).1 0 by omega]
          | false =>
            have hz' : (s.2 != 0) = true := by unfold bne; rw [hz]; rfl
            have hs0 : s.2 ≠ 0 := by simpa using hz
            have hk : k ≠ 1 := by
              rintro rfl
              exact hs0 (may_whole hmay)
            obtain ⟨e1, e2, e3⟩ := ent_J h1 h2 hi hn hk hs0 hok hh
            rw [hz', e1, e2]
            simp only [cond_false, cond_true]
            rw [allK_all (p := hitB s) (pairsL h k i).1]
            have e : idxP (hitB s) (pairsL h k i).1 0 = idxS (s.1, fromJ h i s) (pairsL h k i).1 0 := by
              rw [idxS_P]
              exact idxP_congr 0 e3
            rw [e]
            show _ = some (reE (atI _ _ _))
            unfold atI
            cases hd : decide (idxS (s.1, fromJ h i s) (pairsL h k i).1 0 < 0) with
            | true => rfl
            | false =>
              have hd := of_decide_eq_false hd
              obtain ⟨g1, g2, g3, _⟩ := idxS_ok hd
              show some (ren _ _ 0) = some (ren _ _ 0)
              rw [show (((idxS (s.1, fromJ h i s) (pairsL h k i).1 0).toNat : Nat) : Int) = idxS (s.1, fromJ h i s) (pairsL h k i).1 0 by omega, g3]
              rfl
def partsL (t : Term.D) : List Int := bif t.1 == 2 then [t.2.1] else bif t.1 == 3 then [t.2.1] else bif t.1 == 4 then [t.2.1] else bif t.1 == 5 then [t.2.1, t.2.2] else []
theorem r74 (t : Term.D) : run (orc []) noL [] F74 (encA [.v Term] t) [.sl true I] =
    bif t.1 == 2 then some (.one (.sl true I none [t.2.1])) else bif t.1 == 3 then some (.one (.sl true I none [t.2.1])) else bif t.1 == 4 then some (.one (.sl true I none [t.2.1])) else
    bif t.1 == 5 then some (.one (.sl true I none [t.2.1, t.2.2])) else some (.one (.sl true I none [])) := by kernel_rfl
def s74 : Sp := .fn [.v Term] fun t => (true, .one (.sl true I none (partsL t)))
theorem g74 : GoodS Tryz.prog N74 s74 := by
  refine good (OrcOk.nil _) H74 rfl (by kernel_rfl) noL [] (noLoops (by kernel_rfl)) [.v Term] (by decide) [.sl true I] _ fun t r _ h => ?_
  cases h
  rw [r74, partsL]
  cases (t.1 == 2) <;> cases (t.1 == 3) <;> cases (t.1 == 4) <;> cases (t.1 == 5) <;> rfl
def badP (i p : Int) : Bool := bif decide (p < 0) then true else decide (p ≥ i)
theorem r121 (p i : Int) : run (orc []) noL [] F121 [.one (.int .i64 p), .one (.rp false I i 0)] [] = some (.one (.bool (badP i p))) := by kernel_rfl
def s121 : Sp := .fn [.v I, .raw] fun x => match x.2 with
  | .one (.rp false (.int .i64) i 0) => (true, .one (.bool (badP i x.1)))
  | _ => (false, AV.junk)
theorem g121 : GoodS Tryz.prog N121 s121 := by
  refine good (OrcOk.nil _) H121 rfl (by kernel_rfl) noL [] (noLoops (by kernel_rfl)) [.v I, .raw] (by decide) [] _ fun x r hw h => ?_
  obtain ⟨p, c⟩ := x
  simp only at h
  split at h
  · rename_i i
    cases h
    exact r121 p i
  · cases h
def idxFrom (f : Int → Bool) : List Int → Int → Int
  | [], _ => -1
  | x :: xs, i => bif f x then i else idxFrom f xs (i + 1)
def cl (c : AV) : Option (Int → Bool) :=
  match c with
  | .one (.fn f [.ptrD false (.int .i64) i]) => bif Nat.beq f N121 then some (badP i) else none
  | _ => none
theorem cl_some {c : AV} {p : Int → Bool} (h : cl c = some p) : ∃ k, c = .one (.fn N121 [.ptrD false I k]) ∧ p = badP k := by
  unfold cl at h
  split at h
  · rename_i f k
    cases hf : Nat.beq f N121 with
    | false => rw [hf] at h; cases h
    | true =>
      rw [hf] at h
      cases h
      obtain rfl := Nat.eq_of_beq_eq_true hf
      exact ⟨k, rfl, rfl⟩
  · cases h
abbrev live101 : List (Nat × List (Nat × Dir)) := [(0, [(0, .keep), (1, .keep), (4, .keep), (7, .keep), (8, .keep)])]
def Λ101 : Lam AV := fun cur vs K =>
  match cur, vs with
  | 0, [.one (.sl f (.int .i64) nl xs), c, .one (.int .i64 r), .one (.int .i64 n), .one (.int .i64 i)] =>
    match cl c with
    | some p =>
      bif decide (n = xs.length) && decide (0 ≤ i) && decide (i ≤ n) && decide (n ≤ 9223372036854775807) then
        (bif decide (idxFrom p (xs.drop i.toNat) i < 0) then K (.exit 0) [.one (.sl f (.int .i64) nl xs), c, .one (.int .i64 r), .one (.int .i64 n), .one (.int .i64 n)]
         else K .ret [.one (.sl f (.int .i64) nl xs), c, .one (.int .i64 (idxFrom p (xs.drop i.toNat) i)), .one (.int .i64 n), .one (.int .i64 (idxFrom p (xs.drop i.toNat) i))])
      else none
    | none => none
  | _, _ => none
def Γ101 : Orc := orc [(N121, s121)]
theorem step101 (f : Bool) (nl : Option Bool) (xs : List Int) (k : Int) (r n i : Int) (K : AE → List AV → Option AV) (fuel : Nat) :
    loopN (aexec tb Γ101 Λ101 ⟨19, 0, live101⟩ (loop1 F101).2 0) 19 0 [(0, .keep), (1, .keep), (4, .keep), (7, .keep), (8, .keep)] K (fuel + 1)
      [.one (.sl f I nl xs), .one (.fn N121 [.ptrD false I k]), .one (.int .i64 r), .one (.int .i64 n), .one (.int .i64 i)] =
    bif decide (i < n) then
      bif inB i xs.length then
        bif badP k (xs.getD i.toNat 0) then K .ret [.one (.sl f I nl xs), .one (.fn N121 [.ptrD false I k]), .one (.int .i64 i), .one (.int .i64 n), .one (.int .i64 i)]
        else loopN (aexec tb Γ101 Λ101 ⟨19, 0, live101⟩ (loop1 F101).2 0) 19 0 [(0, .keep), (1, .keep), (4, .keep), (7, .keep), (8, .keep)] K fuel
          [.one (.sl f I nl xs), .one (.fn N121 [.ptrD false I k]), .one (.int .i64 r), .one (.int .i64 n), .one (.int .i64 (IntKind.i64.wrap (i + 1)))]
      else none
    else K (.exit 0) [.one (.sl f I nl xs), .one (.fn N121 [.ptrD false I k]), .one (.int .i64 r), .one (.int .i64 n), .one (.int .i64 i)] := by kernel_rfl
theorem idxFrom_drop (p : Int → Bool) (xs : List Int) (i : Nat) (h : i < xs.length) : idxFrom p (xs.drop i) i = bif p (xs.getD i 0) then (i : Int) else idxFrom p (xs.drop (i + 1)) ((i + 1 : Nat) : Int) := by
  rw [List.drop_eq_getElem_cons h]
  simp [idxFrom, List.getD_eq_getElem?_getD, h]
theorem idxFrom_ge (p : Int → Bool) : ∀ (xs : List Int) (i : Int), idxFrom p xs i = -1 ∨ i ≤ idxFrom p xs i := by
  intro xs
  induction xs with
  | nil => intro i; exact .inl rfl
  | cons x xs ih =>
    intro i
    simp only [idxFrom]
    cases p x with
    | true => exact .inr (Int.le_refl i)
    | false => rcases ih (i + 1) with h | h
               · exact .inl h
               · exact .inr (by simp only [cond_false]; omega)
theorem loop101 : LoopP tb Γ101 Λ101 ⟨19, 0, live101⟩ (loop1 F101) := by
  intro vs K out h
  have hcur : (loop1 F101).1 = 0 := by kernel_rfl
  rw [hcur] at h ⊢
  unfold Λ101 at h
  split at h
  · rename_i f nl xs c r n i _
    split at h
    · rename_i p hp
      obtain ⟨k, rfl, rfl⟩ := cl_some hp
      · cases hc : (decide (n = xs.length) && decide (0 ≤ i) && decide (i ≤ n) && decide (n ≤ 9223372036854775807)) with
        | false => rw [hc] at h; cases h
        | true =>
          rw [hc] at h
          simp only [cond_true] at h
          simp only [Bool.and_eq_true, decide_eq_true_eq] at hc
          obtain ⟨⟨⟨hn, h0⟩, hi⟩, hmax⟩ := hc
          obtain ⟨j, rfl⟩ := Int.eq_ofNat_of_zero_le h0
          subst hn
          have key : ∀ (m j : Nat) (r : Int), j + m = xs.length → (bif decide (idxFrom (badP k) (xs.drop j) j < 0) then K (.exit 0) [.one (.sl f I nl xs), .one (.fn N121 [.ptrD false I k]), .one (.int .i64 r), .one (.int .i64 xs.length), .one (.int .i64 xs.length)]
              else K .ret [.one (.sl f I nl xs), .one (.fn N121 [.ptrD false I k]), .one (.int .i64 (idxFrom (badP k) (xs.drop j) j)), .one (.int .i64 xs.length), .one (.int .i64 (idxFrom (badP k) (xs.drop j) j))]) = some out →
              ∃ fuel, loopN (aexec tb Γ101 Λ101 ⟨19, 0, live101⟩ (loop1 F101).2 0) 19 0 [(0, .keep), (1, .keep), (4, .keep), (7, .keep), (8, .keep)] K fuel
                [.one (.sl f I nl xs), .one (.fn N121 [.ptrD false I k]), .one (.int .i64 r), .one (.int .i64 xs.length), .one (.int .i64 j)] = some out := by
            intro m
            induction m with
            | zero =>
              intro j r hj h
              refine ⟨1, ?_⟩
              rw [step101]
              have hd : decide ((j : Int) < (xs.length : Int)) = false := by simp; omega
              have hdr : xs.drop j = [] := List.drop_of_length_le (by omega)
              rw [hdr] at h
              simp only [idxFrom] at h
              have : (j : Int) = xs.length := by omega
              rw [hd, this]
              simpa using h
            | succ m ih =>
              intro j r hj h
              have hlt : j < xs.length := by omega
              have hd : decide ((j : Int) < (xs.length : Int)) = true := by simp; omega
              have hb : inB (j : Int) xs.length = true := by simp [inB]; omega
              rw [idxFrom_drop _ _ _ hlt] at h
              cases hx : badP k (xs.getD j 0) with
              | true =>
                refine ⟨1, ?_⟩
                rw [step101, hd, hb]
                simp only [cond_true, Int.toNat_natCast, hx]
                rw [hx] at h
                simp only [cond_true] at h
                have : decide ((j : Int) < 0) = false := by simp
                rw [this] at h
                exact h
              | false =>
                rw [hx] at h
                simp only [cond_false] at h
                obtain ⟨fuel, hf⟩ := ih (j + 1) r (by omega) h
                refine ⟨fuel + 1, ?_⟩
                rw [step101, hd, hb]
                simp only [cond_true, Int.toNat_natCast, hx, cond_false]
                rw [wrap64 (by omega) (by omega)]
                exact hf
          exact key (xs.length - j) j r (by omega) h
    · cases h
  · cases h
theorem r101 (xs : List Int) (k : Int) : run Γ101 Λ101 live101 F101 [.one (.sl false I none xs), .one (.fn N121 [.ptrD false I k])] [] =
    bif decide ((xs.length : Int) = xs.length) && decide ((0 : Int) ≤ 0) && decide ((0 : Int) ≤ (xs.length : Int)) && decide ((xs.length : Int) ≤ 9223372036854775807) then
      bif decide (idxFrom (badP k) (xs.drop (Int.toNat 0)) 0 < 0) then some (.one (.int .i64 (-1))) else some (.one (.int .i64 (idxFrom (badP k) (xs.drop (Int.toNat 0)) 0)))
    else none := by kernel_rfl
def s101 : Sp := .fn [.v (.sl I), .raw] fun x => match cl x.2 with
  | some p => (true, .one (.int .i64 (idxFrom p x.1 0)))
  | none => (false, AV.junk)
theorem Γ101ok : OrcOk Tryz.prog Γ101 := .cons g121 (.nil _)
theorem g101 : GoodS Tryz.prog N101 s101 := by
  refine good Γ101ok H101 rfl (by kernel_rfl) Λ101 live101 (oneLoop (p0 := loop1 F101) (by kernel_rfl) loop101) [.v (.sl I), .raw] (by decide) [] _ fun x r hw h => ?_
  obtain ⟨xs, c⟩ := x
  simp only at h
  split at h
  · rename_i p hp
    obtain ⟨k, rfl, rfl⟩ := cl_some hp
    · cases h
      refine (r101 xs k).trans ?_
      have hmax : (xs.length : Int) ≤ 9223372036854775807 := by have : xs.length ≤ 9223372036854775807 := hw.1.1; omega
      have h0 : (0 : Int) ≤ (xs.length : Int) := by omega
      simp only [decide_eq_true hmax, decide_eq_true h0, decide_true, Int.le_refl, Bool.and_self, cond_true, Int.toNat_zero, List.drop_zero]
      rcases idxFrom_ge (badP k) xs 0 with h | h
      · rw [h]; rfl
      · have : decide (idxFrom (badP k) xs 0 < 0) = false := by simpa using h
        rw [this]; rfl
  · cases h
def Γ67 : Orc := orc [(N101, s101)]
theorem r67 (xs : List Int) (k : Int) : run Γ67 noL [] F67 [.one (.sl false I none xs), .one (.fn N121 [.ptrD false I k])] [] = some (.one (.bool (decide (idxFrom (badP k) xs 0 ≥ 0)))) := by kernel_rfl
theorem idx_any (p : Int → Bool) : ∀ (xs : List Int) (i : Int), 0 ≤ i → decide (idxFrom p xs i ≥ 0) = xs.any p := by
  intro xs
  induction xs with
  | nil => intro i _; rfl
  | cons x xs ih =>
    intro i hi
    simp only [idxFrom, List.any_cons]
    rcases Bool.eq_false_or_eq_true (p x) with h | h
    · simp only [h, cond_true, Bool.true_or]; exact decide_eq_true hi
    · simp only [h, cond_false, Bool.false_or]; exact ih (i + 1) (by omega)
def s67 : Sp := .fn [.v (.sl I), .raw] fun x => match cl x.2 with
  | some p => (true, .one (.bool (x.1.any p)))
  | none => (false, AV.junk)
theorem g67 : GoodS Tryz.prog N67 s67 := by
  refine good (.cons g101 (.nil _)) H67 rfl (by kernel_rfl) noL [] (noLoops (by kernel_rfl)) [.v (.sl I), .raw] (by decide) [] _ fun x r hw h => ?_
  obtain ⟨xs, c⟩ := x
  simp only at h
  split at h
  · rename_i p hp
    obtain ⟨k, rfl, rfl⟩ := cl_some hp
    · cases h
      refine (r67 xs k).trans ?_
      rw [idx_any _ _ _ (Int.le_refl 0)]
  · cases h
def Γ104 : Orc := orc [(N67, s67), (N74, s74)]
def mayBad (t : Term.D) : Bool := bif bif decide (t.1 < 1) then true else decide (t.1 > 5) then true else bif t.1 != 5 then t.2.2 != 0 else false
def mayB (t : Term.D) (i : Int) : Bool :=
  bif mayBad t then false
  else bif t.1 == 1 then (bif decide (t.2.1 ≥ 0) then decide (t.2.1 ≤ 1048576) else false)
  else !(partsL t).any (badP i)
theorem r104 (t : Term.D) (i : Int) : run Γ104 noL [] F104 (encA [.v Term, .v I] (t, i)) [] =
    bif mayBad t then some (.one (.bool false)) else bif t.1 == 1 then some (.one (.bool (bif decide (t.2.1 ≥ 0) then decide (t.2.1 ≤ 1048576) else false))) else some (.one (.bool (! (partsL t).any (badP i)))) := by kernel_rfl
def s104 : Sp := .fn [.v Term, .v I] fun x => (true, .one (.bool (mayB x.1 x.2)))
theorem g104 : GoodS Tryz.prog N104 s104 := by
  refine good (.cons g67 (.cons g74 (.nil _))) H104 rfl (by kernel_rfl) noL [] (noLoops (by kernel_rfl)) [.v Term, .v I] (by decide) [] _ fun x r hw h => ?_
  obtain ⟨t, i⟩ := x
  cases h
  refine (r104 t i).trans ?_
  show _ = some (AV.one (SV.bool (mayB t i)))
  rw [mayB]
  cases mayBad t <;> cases (t.1 == 1) <;> rfl

theorem nl_split {w : World} {okA : Nat → Prop} {f : Bool} {t : Ty} {xs : List t.D} {v : Go.Value} (h : AVRel w μ0 (argOK okA) (.one (.sl f t none xs)) v) :
    (xs = [] ∧ AVRel w μ0 (argOK okA) (.one (.sl f t (some true) xs)) v) ∨ AVRel w μ0 (argOK okA) (.one (.sl f t (some false) xs)) v := by
  obtain ⟨h1, _⟩ := h
  obtain ⟨A, c, e, g1, g2, g3⟩ := id h1
  simp only [List.cons.injEq, and_true] at e
  subst e
  rcases g3 with ⟨rfl, rfl, rfl⟩ | ⟨b, o, ⟨sp, rfl, _⟩, _⟩
  · exact .inl ⟨rfl, h1, rfl⟩
  · exact .inr ⟨h1, _, _, _, rfl⟩
/-- A contract that looks whether its only argument is nil. -/
theorem good_nl {P : Program} {f : FuncId} {t : Ty} {xs : List t.D} {r : AV} (h1 : xs = [] → Good P f [.one (.sl false t (some true) xs)] r) (h2 : Good P f [.one (.sl false t (some false) xs)] r) : Good P f [.one (.sl false t none xs)] r := by
  intro w okA vs hA hl
  cases hl with
  | @cons _ v _ vs' hv ht =>
    rcases nl_split hv with ⟨e, hv'⟩ | hv'
    · exact h1 e w okA _ hA (.cons hv' ht)
    · exact h2 w okA _ hA (.cons hv' ht)
theorem r47n (xs : List Term.D) : run (orc []) noL [] F47 [.one (.sl false Term (some true) xs)] [.arr Term] = some (.arr true Term []) := by kernel_rfl
theorem r47 (xs : List Term.D) : run (orc []) noL [] F47 [.one (.sl false Term (some false) xs)] [.arr Term] =
    bif decide ((([] : List Term.D).length + xs.length) * 24 ≤ 140737488355328) then some (.arr true Term ([] ++ xs)) else none := by kernel_rfl
def small24 (n : Nat) : Bool := decide (n * 24 ≤ 140737488355328)
def s47 : Sp := .fn [.v (.sl Term)] fun xs => (small24 xs.length, .arr true Term xs)
theorem ks47 (ws : List WK) (args : List AV) (hl : args.length ≤ F47.ntmps) {r : AV} (h : run (orc []) noL [] F47 args ws = some r) : Good Tryz.prog N47 args r :=
  good_of mixed tbOk (.nil _) H47 (bd rfl) rfl rfl args hl ⟨F47.ntmps, 0, []⟩ rfl noL (noLoops (by kernel_rfl)) (kretW_spec ws) h
theorem g47 : GoodS Tryz.prog N47 s47 := by
  refine .fn (callable_of H47 (bd rfl) (by kernel_rfl)) fun xs r hw h => ?_
  have hs : small24 xs.length = true := congrArg Prod.fst h
  obtain rfl : AV.arr true Term xs = r := congrArg Prod.snd h
  refine good_nl (fun e => ?_) ?_
  · subst e
    exact ks47 [.arr Term] _ (by show 1 ≤ 8; omega) (r47n [])
  · refine ks47 [.arr Term] _ (by show 1 ≤ 8; omega) ((r47 xs).trans ?_)
    unfold small24 at hs
    simp only [List.length_nil, Nat.zero_add, hs, cond_true, List.nil_append]
abbrev Ents := List (Term.D × I.D)
def ixBad (t : Term.D) (i : Int) (es : Ents) : Bool := bif mhas t es then true else !mayB t i
def ixGo : List Term.D → Int → Ents → Bool × Ents × Int
  | [], i, es => (true, es, i)
  | t :: r, i, es => bif ixBad t i es then (false, es, i) else ixGo r (i + 1) (mput t i es)
abbrev live88 : List (Nat × Dir) := [(0, .keep), (2, .keep), (3, .keep), (4, .keep), (14, .keep), (15, .keep), (16, .keep), (17, .keep)]
def Γ88 : Orc := orc [(N104, s104)]
def vs88 (l l2 : List Term.D) (es : Ents) (n i : Int) : List AV :=
  [.one (.sl false Term none l), .one .nilm, .one (.bool false), .one (.mref 14), .mapO true Term I es, .one (.sl false Term none l2), .one (.int .i64 n), .one (.int .i64 i)]
def Λ88 : Lam AV := fun cur vs K =>
  match cur, vs with
  | 0, [.one (.sl false (.pair (.int .i64) (.pair (.int .i64) (.int .i64))) none l), .one .nilm, .one (.bool false), .one (.mref 14), .mapO true (.pair (.int .i64) (.pair (.int .i64) (.int .i64))) (.int .i64) [], .one (.sl false (.pair (.int .i64) (.pair (.int .i64) (.int .i64))) none l2), .one (.int .i64 n), .one (.int .i64 0)] =>
    bif decide (n = l2.length) && decide (n ≤ 9223372036854775807) then
      bif (ixGo l2 0 []).1 then K (.exit 0) (vs88 l l2 (ixGo l2 0 []).2.1 n (ixGo l2 0 []).2.2) else K .ret (vs88 l l2 (ixGo l2 0 []).2.1 n (ixGo l2 0 []).2.2)
    else none
  | _, _ => none
def tAt (l : List Term.D) (i : Int) : Term.D := l.getD i.toNat (0, 0, 0)
theorem step88 (l l2 : List Term.D) (es : Ents) (n i : Int) (K : AE → List AV → Option AV) (fuel : Nat) :
    loopN (aexec tb Γ88 Λ88 ⟨40, 0, [(0, live88)]⟩ (loop1 F88).2 0) 40 0 live88 K (fuel + 1) (vs88 l l2 es n i) =
    bif decide (i < n) then
      bif inB i l2.length then
        bif ixBad (tAt l2 i) i es then K .ret (vs88 l l2 es n i)
        else loopN (aexec tb Γ88 Λ88 ⟨40, 0, [(0, live88)]⟩ (loop1 F88).2 0) 40 0 live88 K fuel (vs88 l l2 (mput (tAt l2 i) i es) n (IntKind.i64.wrap (i + 1)))
      else none
    else K (.exit 0) (vs88 l l2 es n i) := by kernel_rfl
theorem ix_drop {l : List Term.D} {j : Nat} {es : Ents} (h : j < l.length) : ixGo (l.drop j) j es =
    bif ixBad (tAt l j) j es then (false, es, (j : Int)) else ixGo (l.drop (j + 1)) ((j + 1 : Nat) : Int) (mput (tAt l j) j es) := by
  rw [List.drop_eq_getElem_cons h]
  simp only [ixGo, tAt, Int.toNat_natCast, List.getD_eq_getElem?_getD, List.getElem?_eq_getElem h, Option.getD_some]
  rfl
theorem loop88 : LoopP tb Γ88 Λ88 ⟨40, 0, [(0, live88)]⟩ (loop1 F88) := by
  intro vs K out h
  have hcur : (loop1 F88).1 = 0 := by kernel_rfl
  rw [hcur] at h ⊢
  unfold Λ88 at h
  split at h
  · rename_i l l2 n _
    cases hc : (decide (n = l2.length) && decide (n ≤ 9223372036854775807)) with
    | false => rw [hc] at h; cases h
    | true =>
      rw [hc] at h
      simp only [cond_true] at h
      simp only [Bool.and_eq_true, decide_eq_true_eq] at hc
      obtain ⟨hn, hmax⟩ := hc
      subst hn
      have key : ∀ (m j : Nat) (es : Ents), j + m = l2.length → (bif (ixGo (l2.drop j) j es).1 then K (.exit 0) (vs88 l l2 (ixGo (l2.drop j) j es).2.1 l2.length (ixGo (l2.drop j) j es).2.2)
            else K .ret (vs88 l l2 (ixGo (l2.drop j) j es).2.1 l2.length (ixGo (l2.drop j) j es).2.2)) = some out →
          ∃ fuel, loopN (aexec tb Γ88 Λ88 ⟨40, 0, [(0, live88)]⟩ (loop1 F88).2 0) 40 0 live88 K fuel (vs88 l l2 es l2.length j) = some out := by
        intro m
        induction m with
        | zero =>
          intro j es hj h
          refine ⟨1, ?_⟩
          rw [step88]
          have hd : decide ((j : Int) < (l2.length : Int)) = false := by simp; omega
          rw [List.drop_of_length_le (by omega)] at h
          rw [hd]
          exact h
        | succ m ih =>
          intro j es hj h
          have hlt : j < l2.length := by omega
          have hd : decide ((j : Int) < (l2.length : Int)) = true := by simp; omega
          have hb : inB (j : Int) l2.length = true := by simp [inB]; omega
          rw [ix_drop hlt] at h
          cases hx : ixBad (tAt l2 j) j es with
          | true =>
            refine ⟨1, ?_⟩
            rw [step88, hd, hb]
            simp only [cond_true, hx]
            rw [hx] at h
            exact h
          | false =>
            rw [hx] at h
            obtain ⟨fuel, hf⟩ := ih (j + 1) _ (by omega) h
            refine ⟨fuel + 1, ?_⟩
            rw [step88, hd, hb]
            simp only [cond_true, cond_false, hx]
            rw [wrap64 (by omega) (by omega)]
            exact hf
      exact key l2.length 0 [] (by omega) h
  · cases h
def ixL (l : List Term.D) : Bool × Ents × Int := bif decide ((l.length : Int) > 65536) then (false, [], 0) else ixGo l 0 []
def ixEnts (l : List Term.D) : Ents := bif (ixL l).1 then (ixL l).2.1 else []
def s88 : Sp := .fn [.v (.sl Term)] fun l => (true, .tup [(false, [.sm true Term I (ixEnts l)]), (false, [.bool (ixL l).1])])
theorem r88 (l : List Term.D) : run Γ88 Λ88 [(0, live88)] F88 (encA [.v (.sl Term)] l) [.mp true Term I, .id] =
    bif decide ((l.length : Int) > 65536) then some (.tup [(false, [.sm true Term I []]), (false, [.bool false])]) else
    bif decide ((l.length : Int) = l.length) && decide ((l.length : Int) ≤ 9223372036854775807) then
      bif (ixGo l 0 []).1 then some (.tup [(false, [.sm true Term I (ixGo l 0 []).2.1]), (false, [.bool true])]) else some (.tup [(false, [.sm true Term I []]), (false, [.bool false])])
    else none := by kernel_rfl
theorem g88 : GoodS Tryz.prog N88 s88 := by
  refine good (.cons g104 (.nil _)) H88 rfl (by kernel_rfl) Λ88 [(0, live88)] (oneLoop (p0 := loop1 F88) (by kernel_rfl) loop88) [.v (.sl Term)] (by decide) [.mp true Term I, .id] _ fun l r hw h => ?_
  cases h
  refine (r88 l).trans ?_
  have hmax : (l.length : Int) ≤ 9223372036854775807 := by have : l.length ≤ 9223372036854775807 := hw.1; omega
  simp only [decide_eq_true hmax, decide_true, Bool.and_self, cond_true, ixEnts, ixL]
  cases decide ((l.length : Int) > 65536) with
  | true => rfl
  | false =>
    simp only [cond_false]
    cases hq : (ixGo l 0 []).1 <;> rfl
def checkL (l : List Term.D) : Int := bif (ixL l).1 then 0 else 1
def Γ49 : Orc := orc [(N88, s88)]
theorem r49 (l : List Term.D) : run Γ49 noL [] F49 (encA [.v (.sl Term)] l) [] = bif !(ixL l).1 then some (.one (.int .i64 1)) else some (.one (.int .i64 0)) := by kernel_rfl
def s49 : Sp := .fn [.v (.sl Term)] fun l => (true, .one (.int .i64 (checkL l)))
theorem g49 : GoodS Tryz.prog N49 s49 := by
  refine good (.cons g88 (.nil _)) H49 rfl (by kernel_rfl) noL [] (noLoops (by kernel_rfl)) [.v (.sl Term)] (by decide) [] _ fun l r hw h => ?_
  cases h
  refine (r49 l).trans ?_
  unfold checkL
  cases (ixL l).1 <;> rfl
def findBad (l : List Term.D) (t : Term.D) : Bool := bif !(ixL l).1 then true else !mayB t l.length
def findL (l : List Term.D) (t : Term.D) : Int × Int :=
  bif findBad l t then (0, 1) else bif !mhas t (ixEnts l) then (0, 4) else (mgetD t (ixEnts l), 0)
def Γ103 : Orc := orc [(N88, s88), (N104, s104)]
theorem r103 (l : List Term.D) (t : Term.D) : run Γ103 noL [] F103 (encA [.v (.sl Term), .v Term] (l, t)) [] =
    bif findBad l t then some (.tup [(false, [.int .i64 0]), (false, [.int .i64 1])]) else
    bif !mhas t (ixEnts l) then some (.tup [(false, [.int .i64 0]), (false, [.int .i64 4])]) else some (.tup [(false, [.int .i64 (mgetD t (ixEnts l))]), (false, [.int .i64 0])]) := by kernel_rfl
def s103 : Sp := .fn [.v (.sl Term), .v Term] fun x => (true, .tup [(false, [.int .i64 (findL x.1 x.2).1]), (false, [.int .i64 (findL x.1 x.2).2])])
theorem g103 : GoodS Tryz.prog N103 s103 := by
  refine good (.cons g88 (.cons g104 (.nil _))) H103 rfl (by kernel_rfl) noL [] (noLoops (by kernel_rfl)) [.v (.sl Term), .v Term] (by decide) [] _ fun x r hw h => ?_
  obtain ⟨l, t⟩ := x
  cases h
  refine (r103 l t).trans ?_
  simp only [findL]
  cases findBad l t <;> cases !mhas t (ixEnts l) <;> rfl
def makeL (l : List Term.D) (t : Term.D) : Int × List Term.D × Int :=
  bif (findL l t).2 == 0 then ((findL l t).1, l, 0) else bif (findL l t).2 != 4 then (0, [], (findL l t).2) else bif (l.length : Int) == 65536 then (0, [], 6) else (l.length, l ++ [t], 0)
def Γ84 : Orc := orc [(N47, s47), (N103, s103)]
theorem r84 (l : List Term.D) (t : Term.D) : run Γ84 noL [] F84 (encA [.v (.sl Term), .v Term] (l, t)) [.id, .sl true Term, .id] =
    bif (findL l t).2 == 0 then (bif small24 l.length then some (.tup [(false, [.int .i64 (findL l t).1]), (false, [.sl true Term none l]), (false, [.int .i64 0])]) else none) else
    bif (findL l t).2 != 4 then some (.tup [(false, [.int .i64 0]), (false, [.sl true Term none []]), (false, [.int .i64 (findL l t).2])]) else
    bif (l.length : Int) == 65536 then some (.tup [(false, [.int .i64 0]), (false, [.sl true Term none []]), (false, [.int .i64 6])]) else
    bif small24 l.length then (bif decide ((l.length + [t].length) * 24 ≤ 140737488355328) then some (.tup [(false, [.int .i64 l.length]), (false, [.sl true Term none (l ++ [t])]), (false, [.int .i64 0])]) else none) else none := by kernel_rfl
theorem ixL_len {l : List Term.D} (h : (ixL l).1 = true) : l.length ≤ 65536 := by
  unfold ixL at h
  cases hd : decide ((l.length : Int) > 65536) with
  | true => rw [hd] at h; cases h
  | false => simp at hd; omega
theorem findL_ok {l : List Term.D} {t : Term.D} (h : (findL l t).2 = 0 ∨ (findL l t).2 = 4) : (ixL l).1 = true := by
  unfold findL findBad at h
  cases hq : (ixL l).1 with
  | true => rfl
  | false => rw [hq] at h; simp at h
theorem small_of {n : Nat} (h : n ≤ 65536) : small24 n = true := decide_eq_true (by omega)
def s84 : Sp := .fn [.v (.sl Term), .v Term] fun x => (true, .tup [(false, [.int .i64 (makeL x.1 x.2).1]), (false, [.sl true Term none (makeL x.1 x.2).2.1]), (false, [.int .i64 (makeL x.1 x.2).2.2])])
theorem g84 : GoodS Tryz.prog N84 s84 := by
  refine good (.cons g47 (.cons g103 (.nil _))) H84 rfl (by kernel_rfl) noL [] (noLoops (by kernel_rfl)) [.v (.sl Term), .v Term] (by decide) [.id, .sl true Term, .id] _ fun x r hw h => ?_
  obtain ⟨l, t⟩ := x
  cases h
  refine (r84 l t).trans ?_
  simp only [makeL]
  cases h0 : (findL l t).2 == 0 with
  | true =>
    rw [small_of (ixL_len (findL_ok (.inl (eq_of_beq h0))))]; rfl
  | false =>
    cases h4 : (findL l t).2 != 4 with
    | true => rfl
    | false =>
      have hl := ixL_len (findL_ok (.inr (by simpa using h4)))
      cases (l.length : Int) == 65536 with
      | true => rfl
      | false =>
        have : decide ((l.length + [t].length) * 24 ≤ 140737488355328) = true := decide_eq_true (by simp; omega)
        rw [small_of hl, this]; rfl
theorem checkL_cases (l : List Term.D) : (checkL l = 0 ∧ (ixL l).1 = true) ∨ (checkL l = 1 ∧ (ixL l).1 = false) := by
  unfold checkL
  cases (ixL l).1
  · exact .inr ⟨rfl, rfl⟩
  · exact .inl ⟨rfl, rfl⟩

theorem eqT {a b : Term.D} : eqD Term a b = true ↔ a = b := by
  obtain ⟨a1, a2, a3⟩ := a
  obtain ⟨b1, b2, b3⟩ := b
  simp [eqD]
theorem eqT_false {a b : Term.D} : eqD Term a b = false ↔ a ≠ b := by
  rw [Ne, ← eqT]; simp
def entsFrom : List Term.D → Int → Ents
  | [], _ => []
  | t :: r, i => (t, i) :: entsFrom r (i + 1)
theorem mget_ents_none {t : Term.D} : ∀ {l : List Term.D} {i : Int}, mget t (entsFrom l i) = none ↔ t ∉ l := by
  intro l
  induction l with
  | nil => intro i; simp [entsFrom, mget]
  | cons a l ih =>
    intro i
    simp only [entsFrom, mget]
    cases h : eqD Term t a with
    | true => simp [eqT.1 h]
    | false =>
      have := eqT_false.1 h
      simp only [cond_false, ih, List.mem_cons, this, false_or]
theorem mget_ents_some {t : Term.D} {x : Int} : ∀ {l : List Term.D} {i : Int}, mget t (entsFrom l i) = some x → ∃ j : Nat, l[j]? = some t ∧ x = i + j := by
  intro l
  induction l with
  | nil => intro i h; simp [entsFrom, mget] at h
  | cons a l ih =>
    intro i h
    simp only [entsFrom, mget] at h
    cases hq : eqD Term t a with
    | true =>
      rw [hq] at h
      simp only [cond_true, Option.some.injEq] at h
      exact ⟨0, by simp [eqT.1 hq], by simp [h]⟩
    | false =>
      rw [hq] at h
      obtain ⟨j, h1, h2⟩ := ih h
      exact ⟨j + 1, by simpa using h1, by omega⟩
theorem mput_ents {t : Term.D} : ∀ {l : List Term.D} {i x : Int}, t ∉ l → x = i + l.length → mput t x (entsFrom l i) = entsFrom (l ++ [t]) i := by
  intro l
  induction l with
  | nil => intro i x _ hx; simp [entsFrom, mput] at hx ⊢; exact hx
  | cons a l ih =>
    intro i x hn hx
    simp only [List.mem_cons, not_or] at hn
    simp only [List.cons_append, entsFrom, mput, eqT_false.2 hn.1, cond_false]
    rw [ih hn.2 (by simp at hx; omega)]
theorem mhas_ents {t : Term.D} {l : List Term.D} {i : Int} : mhas t (entsFrom l i) = true ↔ t ∈ l := by
  unfold mhas
  cases h : mget t (entsFrom l i) with
  | none => simp [mget_ents_none.1 h]
  | some x =>
    obtain ⟨j, h1, _⟩ := mget_ents_some h
    simp [List.mem_of_getElem? h1]
theorem mhas_ents_false {t : Term.D} {l : List Term.D} {i : Int} : mhas t (entsFrom l i) = false ↔ t ∉ l := by
  rw [← mhas_ents (i := i)]; simp
/-- Terms that may be. -/
def GoodL (l : List Term.D) : Prop := l.length ≤ 65536 ∧ ∀ (j : Nat) (t : Term.D), l[j]? = some t → mayB t j = true ∧ t ∉ l.take j
theorem ixGo_spec : ∀ (r p : List Term.D), ((ixGo r p.length (entsFrom p 0)).1 = true ↔ ∀ (j : Nat) (t : Term.D), r[j]? = some t → mayB t ((p.length : Int) + j) = true ∧ t ∉ p ++ r.take j) ∧
    ((ixGo r p.length (entsFrom p 0)).1 = true → (ixGo r p.length (entsFrom p 0)).2.1 = entsFrom (p ++ r) 0) := by
  intro r
  induction r with
  | nil => intro p; simp [ixGo]
  | cons a r ih =>
    intro p
    simp only [ixGo, ixBad]
    cases h1 : mhas a (entsFrom p 0) with
    | true =>
      have := mhas_ents.1 h1
      refine ⟨⟨fun h => (by simp at h), fun h => ?_⟩, fun h => by simp at h⟩
      exact absurd (h 0 a rfl).2 (by simp [this])
    | false =>
      have h1 := mhas_ents_false.1 h1
      cases h2 : mayB a p.length with
      | false =>
        refine ⟨⟨fun h => (by simp at h), fun h => ?_⟩, fun h => by simp at h⟩
        have := (h 0 a rfl).1
        simp [h2] at this
      | true =>
        simp only [cond_false, Bool.not_true]
        have e1 : (p.length : Int) + 1 = ((p ++ [a]).length : Nat) := by simp
        rw [mput_ents h1 (by omega), e1]
        obtain ⟨g1, g2⟩ := ih (p ++ [a])
        refine ⟨g1.trans ⟨fun h j t hj => ?_, fun h j t hj => ?_⟩, fun h => by rw [g2 h]; simp⟩
        · cases j with
          | zero =>
            simp only [List.getElem?_cons_zero, Option.some.injEq] at hj
            subst hj
            simpa [h2] using h1
          | succ j =>
            have := h j t (by simpa using hj)
            refine ⟨?_, by simpa using this.2⟩
            have h3 := this.1
            rw [← e1] at h3
            rw [← h3]; congr 1; omega
        · have := h (j + 1) t (by simpa using hj)
          refine ⟨?_, by simpa using this.2⟩
          have h3 := this.1
          rw [← e1, ← h3]; congr 1; omega
theorem ixL_iff {l : List Term.D} : (ixL l).1 = true ↔ GoodL l := by
  unfold ixL
  cases h : decide ((l.length : Int) > 65536) with
  | true =>
    refine ⟨fun h => (by simp at h), fun h' => ?_⟩
    have := h'.1
    simp at h; omega
  | false =>
    simp only [cond_false]
    have := (ixGo_spec l []).1
    simp only [List.length_nil, List.nil_append, entsFrom] at this
    refine this.trans ⟨fun h2 => ⟨by simp at h; omega, fun j t hj => ?_⟩, fun h2 j t hj => ?_⟩
    · have := h2 j t hj; simpa using this
    · have := h2.2 j t hj; simpa using this
theorem checkL_iff {l : List Term.D} : checkL l = 0 ↔ GoodL l := by
  rw [← ixL_iff]
  rcases checkL_cases l with ⟨h, h'⟩ | ⟨h, h'⟩ <;> simp [h, h']
theorem ixEnts_eq {l : List Term.D} (h : GoodL l) : ixEnts l = entsFrom l 0 := by
  have h1 := ixL_iff.2 h
  unfold ixEnts
  rw [h1]
  simp only [cond_true]
  unfold ixL at h1 ⊢
  cases hd : decide ((l.length : Int) > 65536) with
  | true => rw [hd] at h1; simp at h1
  | false =>
    rw [hd] at h1
    simp only [cond_false] at h1 ⊢
    have := (ixGo_spec l []).2 h1
    simpa [entsFrom] using this
/-- What is made: where it is, and the terms. -/
theorem makeL_ok {l : List Term.D} {t : Term.D} (h : (makeL l t).2.2 = 0) : GoodL l ∧ mayB t l.length = true ∧ ∃ i : Nat, (makeL l t).1 = i ∧ GoodL (makeL l t).2.1 ∧ (makeL l t).2.1[i]? = some t ∧
    ((t ∈ l ∧ (makeL l t).2.1 = l) ∨ (t ∉ l ∧ i = l.length ∧ l.length < 65536 ∧ (makeL l t).2.1 = l ++ [t])) := by
  unfold makeL at h ⊢
  have hg : (ixL l).1 = true := by
    refine findL_ok (t := t) ?_
    cases h0 : (findL l t).2 == 0 with
    | true => exact .inl (eq_of_beq h0)
    | false =>
      rw [h0] at h
      cases h4 : (findL l t).2 != 4 with
      | true => rw [h4] at h; simp only [cond_true, cond_false] at h; exact .inl h
      | false => exact .inr (by simpa using h4)
  have hG := ixL_iff.1 hg
  have hE := ixEnts_eq hG
  have hf : findL l t = bif !mayB t l.length then (0, 1) else bif !mhas t (entsFrom l 0) then (0, 4) else (mgetD t (entsFrom l 0), 0) := by
    unfold findL findBad; rw [hg, hE]; rfl
  cases hm : mayB t l.length with
  | false =>
    rw [hm] at hf
    simp only [Bool.not_false, cond_true] at hf
    rw [hf] at h
    simp at h
  | true =>
    rw [hm] at hf
    simp only [Bool.not_true, cond_false] at hf
    refine ⟨hG, rfl, ?_⟩
    cases hh : mhas t (entsFrom l 0) with
    | true =>
      rw [hh] at hf
      simp only [Bool.not_true, cond_false] at hf
      have hmem := mhas_ents.1 hh
      have : ∃ x, mget t (entsFrom l 0) = some x := by
        unfold mhas at hh
        cases hq : mget t (entsFrom l 0) with
        | none => rw [hq] at hh; cases hh
        | some x => exact ⟨x, rfl⟩
      obtain ⟨x, hx⟩ := this
      obtain ⟨j, hj, hxj⟩ := mget_ents_some hx
      have hd : mgetD t (entsFrom l 0) = x := (mgetD_some hx).1
      rw [hf]
      simp only [beq_self_eq_true, cond_true]
      exact ⟨j, by rw [hd, hxj]; simp, hG, hj, .inl ⟨hmem, trivial⟩⟩
    | false =>
      rw [hh] at hf
      simp only [Bool.not_false, cond_true] at hf
      have hmem := mhas_ents_false.1 hh
      rw [hf] at h ⊢
      cases h6 : (l.length : Int) == 65536 with
      | true => rw [h6] at h; simp at h
      | false =>
        have h6' : l.length ≠ 65536 := fun e => by rw [e] at h6; cases h6
        have hl := hG.1
        show ∃ i : Nat, (l.length : Int) = i ∧ GoodL (l ++ [t]) ∧ (l ++ [t])[i]? = some t ∧ _
        refine ⟨l.length, rfl, ⟨by simp; omega, fun j s hj => ?_⟩, by simp, .inr ⟨hmem, rfl, by omega, rfl⟩⟩
        rcases Nat.lt_or_ge j l.length with hlt | hge
        · rw [List.getElem?_append_left hlt] at hj
          rw [List.take_append_of_le_length (by omega)]
          exact hG.2 j s hj
        · have hjl : j < (l ++ [t]).length := (List.getElem?_eq_some_iff.1 hj).1
          obtain rfl : j = l.length := by simp at hjl; omega
          simp only [List.getElem?_concat_length, Option.some.injEq] at hj
          subst hj
          simpa [hm] using hmem
/-- What may be, is made. -/
theorem makeL_may {l : List Term.D} {t : Term.D} (h : GoodL l) (hm : mayB t l.length = true) (hl : l.length < 65536) : (makeL l t).2.2 = 0 := by
  have hg := ixL_iff.2 h
  have hE := ixEnts_eq h
  have hf : findL l t = bif !mhas t (entsFrom l 0) then (0, 4) else (mgetD t (entsFrom l 0), 0) := by
    unfold findL findBad; rw [hg, hE, hm]; rfl
  unfold makeL
  rw [hf]
  cases hh : mhas t (entsFrom l 0) with
  | true => rfl
  | false =>
    have : ((l.length : Int) == 65536) = false := by simp; omega
    simp only [Bool.not_false, cond_true, this]
    rfl
theorem mayB_part {k i n : Int} (hk : k = 2 ∨ k = 3 ∨ k = 4) (h0 : 0 ≤ i) (h1 : i < n) : mayB (k, i, 0) n = true := by
  have hb : badP n i = false := by unfold badP; rw [decide_eq_false (by omega)]; simp; omega
  rcases hk with rfl | rfl | rfl <;> simp [mayB, mayBad, partsL, hb]
theorem makeL_len (l : List Term.D) (t : Term.D) : (makeL l t).2.1.length ≤ l.length + 1 := by
  unfold makeL
  cases (findL l t).2 == 0 <;> cases (findL l t).2 != 4 <;> cases (l.length : Int) == 65536 <;> simp
theorem tAt_get {l : List Term.D} {i : Nat} {t : Term.D} (h : l[i]? = some t) : tAt l i = t := by
  unfold tAt
  simp [List.getD_eq_getElem?_getD, h]
def a90 (t : Term.D) : Bool := bif bif decide (t.2.1 ≥ 0) then decide (t.2.1 ≤ 1048576) else false then t.2.2 == 0 else false
def b90 (t : Term.D) (i : Int) : Bool := bif bif decide (t.2.1 ≥ 0) then decide (t.2.1 < i) else false then t.2.2 == 0 else false
def c90 (t : Term.D) (i : Int) : Bool := bif bif bif decide (t.2.1 ≥ 0) then decide (t.2.1 < i) else false then decide (t.2.2 ≥ 0) else false then decide (t.2.2 < i) else false
def mayR (t : Term.D) (i : Int) : Bool := bif t.1 == 1 then a90 t else bif t.1 == 2 then b90 t i else bif t.1 == 3 then b90 t i else bif t.1 == 4 then b90 t i else bif t.1 == 5 then c90 t i else false
def ob (b : Bool) : Option AV := some (.one (.bool b))
theorem r90 (t : Term.D) (i : Int) : run (orc []) noL [] F90 (encA [.v Term, .v I] (t, i)) [] =
    bif t.1 == 1 then ob (a90 t) else bif t.1 == 2 then ob (b90 t i) else bif t.1 == 3 then ob (b90 t i) else bif t.1 == 4 then ob (b90 t i) else bif t.1 == 5 then ob (c90 t i) else ob false := by kernel_rfl
def s90 : Sp := .fn [.v Term, .v I] fun x => (true, .one (.bool (mayR x.1 x.2)))
theorem g90 : GoodS Tryz.prog N90 s90 := by
  refine good (.nil _) H90 rfl (by kernel_rfl) noL [] (noLoops (by kernel_rfl)) [.v Term, .v I] (by decide) [] _ fun x r _ h => ?_
  obtain ⟨t, i⟩ := x
  cases h
  rw [r90]
  show _ = ob (mayR t i)
  unfold mayR
  cases (t.1 == 1) <;> cases (t.1 == 2) <;> cases (t.1 == 3) <;> cases (t.1 == 4) <;> cases (t.1 == 5) <;> rfl
def plGo (t : Term.D) : List Term.D → Int → Int
  | [], _ => -1
  | x :: xs, i => bif eqD Term x t then i else plGo t xs (i + 1)
abbrev live91 : List (Nat × Dir) := [(3, .keep), (4, .keep), (7, .keep), (8, .keep), (9, .keep)]
def vs91 (l : List Term.D) (t : Term.D) (r n i : Int) : List AV :=
  [.own [.int .i64 t.1, .int .i64 t.2.1, .int .i64 t.2.2], .one (.int .i64 r), .one (.sl false Term none l), .one (.int .i64 n), .one (.int .i64 i)]
def Λ91 : Lam AV := fun cur vs K =>
  match cur, vs with
  | 0, [.own [.int .i64 a, .int .i64 b, .int .i64 c], .one (.int .i64 0), .one (.sl false (.pair (.int .i64) (.pair (.int .i64) (.int .i64))) none l), .one (.int .i64 n), .one (.int .i64 0)] =>
    bif decide (n = l.length) && decide (n ≤ 9223372036854775807) then
      bif decide (plGo (a, b, c) l 0 < 0) then K (.exit 0) (vs91 l (a, b, c) 0 n n) else K .ret (vs91 l (a, b, c) (plGo (a, b, c) l 0) n (plGo (a, b, c) l 0))
    else none
  | _, _ => none
theorem tAt_drop {l : List Term.D} {j : Nat} (h : j < l.length) : l.drop j = tAt l j :: l.drop (j + 1) := by
  rw [List.drop_eq_getElem_cons h]
  simp [tAt, h]
theorem step91 (l : List Term.D) (t : Term.D) (r n i : Int) (K : AE → List AV → Option AV) (fuel : Nat) :
    loopN (aexec tb (orc []) Λ91 ⟨19, 0, [(0, live91)]⟩ (loop1 F91).2 0) 19 0 live91 K (fuel + 1) (vs91 l t r n i) =
    bif decide (i < n) then
      bif inB i l.length then
        bif eqD Term (tAt l i) t then K .ret (vs91 l t i n i)
        else loopN (aexec tb (orc []) Λ91 ⟨19, 0, [(0, live91)]⟩ (loop1 F91).2 0) 19 0 live91 K fuel (vs91 l t r n (IntKind.i64.wrap (i + 1)))
      else none
    else K (.exit 0) (vs91 l t r n i) := by kernel_rfl
theorem plGo_ge (t : Term.D) : ∀ (xs : List Term.D) (i : Int), plGo t xs i = -1 ∨ i ≤ plGo t xs i := by
  intro xs
  induction xs with
  | nil => intro i; exact .inl rfl
  | cons x xs ih =>
    intro i
    simp only [plGo]
    cases eqD Term x t with
    | true => exact .inr (Int.le_refl i)
    | false => rcases ih (i + 1) with h | h
               · exact .inl h
               · exact .inr (by simp only [cond_false]; omega)
theorem loop91 : LoopP tb (orc []) Λ91 ⟨19, 0, [(0, live91)]⟩ (loop1 F91) := by
  intro vs K out h
  have hcur : (loop1 F91).1 = 0 := by kernel_rfl
  rw [hcur] at h ⊢
  unfold Λ91 at h
  split at h
  · rename_i a b c l n _
    cases hc : (decide (n = l.length) && decide (n ≤ 9223372036854775807)) with
    | false => rw [hc] at h; cases h
    | true =>
      rw [hc] at h
      simp only [cond_true] at h
      simp only [Bool.and_eq_true, decide_eq_true_eq] at hc
      obtain ⟨rfl, hmax⟩ := hc
      refine upLoop (α := Unit) (n := l.length) (F := fun fuel _ i => loopN (aexec tb (orc []) Λ91 ⟨19, 0, [(0, live91)]⟩ (loop1 F91).2 0) 19 0 live91 K fuel (vs91 l (a, b, c) 0 l.length i))
        (G := fun j _ => bif decide (plGo (a, b, c) (l.drop j) j < 0) then K (.exit 0) (vs91 l (a, b, c) 0 l.length l.length) else K .ret (vs91 l (a, b, c) (plGo (a, b, c) (l.drop j) j) l.length (plGo (a, b, c) (l.drop j) j)))
        (fun fuel _ => ?_) (fun _ j hj => ?_) l.length 0 () out (by omega) h
      · simp only [step91, nlt_dec, cond_false, List.drop_length, plGo]; rfl
      · cases hx : eqD Term (tAt l j) (a, b, c) with
        | true =>
          right; intro fuel
          have h0 : decide ((j : Int) < 0) = false := by simp
          simp only [step91, lt_dec hj, inB_lt hj, hx, cond_true, cond_false, tAt_drop hj, plGo, h0]
        | false =>
          left; refine ⟨(), fun fuel => ?_, ?_⟩
          · simp only [step91, lt_dec hj, inB_lt hj, hx, cond_true, cond_false]
            rw [wrap64 (by omega) (by omega)]; rfl
          · simp only [tAt_drop hj, plGo, hx, cond_false]; rfl
  · cases h
theorem r91 (l : List Term.D) (t : Term.D) : run (orc []) Λ91 [(0, live91)] F91 (encA [.v (.sl Term), .v Term] (l, t)) [] =
    bif decide ((l.length : Int) = l.length) && decide ((l.length : Int) ≤ 9223372036854775807) then
      bif decide (plGo t l 0 < 0) then some (.one (.int .i64 (-1))) else some (.one (.int .i64 (plGo t l 0)))
    else none := by kernel_rfl
def s91 : Sp := .fn [.v (.sl Term), .v Term] fun x => (true, .one (.int .i64 (plGo x.2 x.1 0)))
theorem len_max {l : List Term.D} (hw : l.length ≤ 9223372036854775807) : (decide ((l.length : Int) = l.length) && decide ((l.length : Int) ≤ 9223372036854775807)) = true := by
  have hmax : (l.length : Int) ≤ 9223372036854775807 := by omega
  simp [hmax]
theorem g91 : GoodS Tryz.prog N91 s91 := by
  refine good (.nil _) H91 rfl (by kernel_rfl) Λ91 [(0, live91)] (oneLoop (p0 := loop1 F91) (by kernel_rfl) loop91) [.v (.sl Term), .v Term] (by decide) [] _ fun x r hw h => ?_
  obtain ⟨l, t⟩ := x
  cases h
  refine (r91 l t).trans ?_
  rw [len_max hw.1.1, cond_true]
  rcases plGo_ge t l 0 with h | h
  · rw [h]; rfl
  · have : decide (plGo t l 0 < 0) = false := by simpa using h
    rw [this]; rfl
def ckBad (l : List Term.D) (t : Term.D) (i : Int) : Bool := bif !mayR t i then true else decide (plGo t (l.take i.toNat) 0 ≥ 0)
def ckGo (l : List Term.D) : List Term.D → Int → Bool
  | [], _ => true
  | t :: r, i => bif ckBad l t i then false else ckGo l r (i + 1)
/-- Where that stops. -/
def ckAt (l : List Term.D) : List Term.D → Int → Int
  | [], i => i
  | t :: r, i => bif ckBad l t i then i else ckAt l r (i + 1)
abbrev live51 : List (Nat × Dir) := [(0, .keep), (2, .keep), (8, .keep), (9, .keep), (10, .keep)]
def Γ51 : Orc := orc [(N90, s90), (N91, s91)]
def vs51 (l l2 : List Term.D) (r n i : Int) : List AV :=
  [.one (.sl false Term none l), .one (.int .i64 r), .one (.sl false Term none l2), .one (.int .i64 n), .one (.int .i64 i)]
def Λ51 : Lam AV := fun cur vs K =>
  match cur, vs with
  | 0, [.one (.sl false (.pair (.int .i64) (.pair (.int .i64) (.int .i64))) none l), .one (.int .i64 0), .one (.sl false (.pair (.int .i64) (.pair (.int .i64) (.int .i64))) none l2), .one (.int .i64 n), .one (.int .i64 0)] =>
    bif decide (n = l2.length) && decide (n ≤ 9223372036854775807) && decide (l.length = l2.length) then
      bif ckGo l l2 0 then K (.exit 0) (vs51 l l2 0 n n) else K .ret (vs51 l l2 1 n (ckAt l l2 0))
    else none
  | _, _ => none
def inSl (i : Int) (n : Nat) : Bool := decide (0 ≤ i) && decide (i ≤ (n : Int))
theorem inSl_lt {j n : Nat} (h : j ≤ n) : inSl (j : Int) n = true := by simp [inSl]; omega
theorem step51 (l l2 : List Term.D) (r n i : Int) (K : AE → List AV → Option AV) (fuel : Nat) :
    loopN (aexec tb Γ51 Λ51 ⟨28, 0, [(0, live51)]⟩ (loop1 F51).2 0) 28 0 live51 K (fuel + 1) (vs51 l l2 r n i) =
    bif decide (i < n) then
      bif inB i l2.length then
        bif !mayR (tAt l2 i) i then K .ret (vs51 l l2 1 n i)
        else bif inSl i l.length then
          bif decide (plGo (tAt l2 i) (l.take i.toNat) 0 ≥ 0) then K .ret (vs51 l l2 1 n i)
          else loopN (aexec tb Γ51 Λ51 ⟨28, 0, [(0, live51)]⟩ (loop1 F51).2 0) 28 0 live51 K fuel (vs51 l l2 r n (IntKind.i64.wrap (i + 1)))
        else none
      else none
    else K (.exit 0) (vs51 l l2 r n i) := by kernel_rfl
theorem loop51 : LoopP tb Γ51 Λ51 ⟨28, 0, [(0, live51)]⟩ (loop1 F51) := by
  intro vs K out h
  have hcur : (loop1 F51).1 = 0 := by kernel_rfl
  rw [hcur] at h ⊢
  unfold Λ51 at h
  split at h
  · rename_i l l2 n _
    cases hc : (decide (n = l2.length) && decide (n ≤ 9223372036854775807) && decide (l.length = l2.length)) with
    | false => rw [hc] at h; cases h
    | true =>
      rw [hc] at h
      simp only [cond_true] at h
      simp only [Bool.and_eq_true, decide_eq_true_eq] at hc
      obtain ⟨⟨rfl, hmax⟩, hl⟩ := hc
      refine upLoop (α := Unit) (n := l2.length) (F := fun fuel _ i => loopN (aexec tb Γ51 Λ51 ⟨28, 0, [(0, live51)]⟩ (loop1 F51).2 0) 28 0 live51 K fuel (vs51 l l2 0 l2.length i))
        (G := fun j _ => bif ckGo l (l2.drop j) j then K (.exit 0) (vs51 l l2 0 l2.length l2.length) else K .ret (vs51 l l2 1 l2.length (ckAt l (l2.drop j) j)))
        (fun fuel _ => ?_) (fun _ j hj => ?_) l2.length 0 () out (by omega) h
      · simp only [step51, nlt_dec, cond_false, List.drop_length, ckGo, cond_true]
      · have hs : inSl (j : Int) l.length = true := inSl_lt (by omega)
        cases h1 : !mayR (tAt l2 j) j with
        | true =>
          right; intro fuel
          simp only [step51, lt_dec hj, inB_lt hj, h1, cond_true, cond_false, tAt_drop hj, ckGo, ckAt, ckBad]
        | false =>
          cases h2 : decide (plGo (tAt l2 j) (l.take (j : Int).toNat) 0 ≥ 0) with
          | true =>
            right; intro fuel
            simp only [step51, lt_dec hj, inB_lt hj, h1, hs, h2, cond_true, cond_false, tAt_drop hj, ckGo, ckAt, ckBad]
          | false =>
            left; refine ⟨(), fun fuel => ?_, ?_⟩
            · simp only [step51, lt_dec hj, inB_lt hj, h1, hs, h2, cond_true, cond_false]
              rw [wrap64 (by omega) (by omega)]; rfl
            · simp only [tAt_drop hj, ckGo, ckAt, ckBad, h1, h2, cond_false]; rfl
  · cases h
theorem r51 (l : List Term.D) : run Γ51 Λ51 [(0, live51)] F51 (encA [.v (.sl Term)] l) [] =
    bif decide ((l.length : Int) > 65536) then some (.one (.int .i64 1)) else
    bif decide ((l.length : Int) = l.length) && decide ((l.length : Int) ≤ 9223372036854775807) && decide (l.length = l.length) then
      bif ckGo l l 0 then some (.one (.int .i64 0)) else some (.one (.int .i64 1))
    else none := by kernel_rfl
def checkR (l : List Term.D) : Int := bif decide ((l.length : Int) > 65536) then 1 else bif ckGo l l 0 then 0 else 1
def s51 : Sp := .fn [.v (.sl Term)] fun l => (true, .one (.int .i64 (checkR l)))
theorem g51 : GoodS Tryz.prog N51 s51 := by
  refine good (.cons g90 (.cons g91 (.nil _))) H51 rfl (by kernel_rfl) Λ51 [(0, live51)] (oneLoop (p0 := loop1 F51) (by kernel_rfl) loop51) [.v (.sl Term)] (by decide) [] _ fun l r hw h => ?_
  cases h
  refine (r51 l).trans ?_
  rw [len_max hw.1, decide_eq_true (rfl : l.length = l.length)]
  simp only [Bool.and_self, cond_true, checkR]
  cases decide ((l.length : Int) > 65536) <;> cases ckGo l l 0 <;> rfl
def findRBad (l : List Term.D) (t : Term.D) : Bool := bif checkR l != 0 then true else !mayR t l.length
def findR (l : List Term.D) (t : Term.D) : Int × Int := bif findRBad l t then (0, 1) else bif decide (plGo t l 0 < 0) then (0, 4) else (plGo t l 0, 0)
def Γ105 : Orc := orc [(N51, s51), (N90, s90), (N91, s91)]
theorem r105 (l : List Term.D) (t : Term.D) : run Γ105 noL [] F105 (encA [.v (.sl Term), .v Term] (l, t)) [] =
    bif findRBad l t then some (.tup [(false, [.int .i64 0]), (false, [.int .i64 1])]) else
    bif decide (plGo t l 0 < 0) then some (.tup [(false, [.int .i64 0]), (false, [.int .i64 4])]) else some (.tup [(false, [.int .i64 (plGo t l 0)]), (false, [.int .i64 0])]) := by kernel_rfl
def s105 : Sp := .fn [.v (.sl Term), .v Term] fun x => (true, .tup [(false, [.int .i64 (findR x.1 x.2).1]), (false, [.int .i64 (findR x.1 x.2).2])])
theorem g105 : GoodS Tryz.prog N105 s105 := by
  refine good (.cons g51 (.cons g90 (.cons g91 (.nil _)))) H105 rfl (by kernel_rfl) noL [] (noLoops (by kernel_rfl)) [.v (.sl Term), .v Term] (by decide) [] _ fun x r hw h => ?_
  obtain ⟨l, t⟩ := x
  cases h
  refine (r105 l t).trans ?_
  simp only [findR]
  cases findRBad l t <;> cases decide (plGo t l 0 < 0) <;> rfl
def Γ89 : Orc := orc [(N105, s105)]
def o89 (l : List Term.D) (t : Term.D) : Option AV := bif small24 l.length then (bif decide ((l.length + [t].length) * 24 ≤ 140737488355328) then some (.tup [(false, [.int .i64 l.length]), (false, [.sl true Term none (l ++ [t])]), (false, [.int .i64 0])]) else none) else none
def makeR (l : List Term.D) (t : Term.D) : Int × List Term.D × Int :=
  bif (findR l t).2 == 1 then (0, [], (findR l t).2) else bif (findR l t).2 == 0 then ((findR l t).1, l, 0) else bif (l.length : Int) == 65536 then (0, [], 6) else (l.length, l ++ [t], 0)
theorem r89 (l : List Term.D) (t : Term.D) : run Γ89 noL [] F89 (encA [.v (.sl Term), .v Term] (l, t)) [.id, .sl true Term, .id] =
    bif (findR l t).2 == 1 then some (.tup [(false, [.int .i64 0]), (false, [.sl true Term none []]), (false, [.int .i64 (findR l t).2])]) else
    bif (findR l t).2 == 0 then (bif small24 l.length then some (.tup [(false, [.int .i64 (findR l t).1]), (false, [.sl true Term none l]), (false, [.int .i64 0])]) else none) else
    bif (l.length : Int) == 65536 then some (.tup [(false, [.int .i64 0]), (false, [.sl true Term none []]), (false, [.int .i64 6])]) else
    allSame [o89 l t, o89 l t, o89 l t] := by kernel_rfl
theorem checkR_len {l : List Term.D} (h : checkR l = 0) : l.length ≤ 65536 := by
  unfold checkR at h
  cases hd : decide ((l.length : Int) > 65536) with
  | true => rw [hd] at h; simp at h
  | false => simp at hd; omega
theorem findR_cases (l : List Term.D) (t : Term.D) : (findR l t).2 = 1 ∨ (l.length ≤ 65536 ∧ ((findR l t).2 = 0 ∨ (findR l t).2 = 4)) := by
  unfold findR findRBad
  cases h : checkR l != 0 with
  | true => exact .inl rfl
  | false =>
    have h0 : checkR l = 0 := by simpa using h
    have := checkR_len h0
    simp only [cond_false]
    cases mayR t l.length with
    | false => exact .inl rfl
    | true =>
      refine .inr ⟨this, ?_⟩
      cases decide (plGo t l 0 < 0)
      · exact .inl rfl
      · exact .inr rfl
def s89 : Sp := .fn [.v (.sl Term), .v Term] fun x => (true, .tup [(false, [.int .i64 (makeR x.1 x.2).1]), (false, [.sl true Term none (makeR x.1 x.2).2.1]), (false, [.int .i64 (makeR x.1 x.2).2.2])])
theorem g89 : GoodS Tryz.prog N89 s89 := by
  refine good (.cons g105 (.nil _)) H89 rfl (by kernel_rfl) noL [] (noLoops (by kernel_rfl)) [.v (.sl Term), .v Term] (by decide) [.id, .sl true Term, .id] _ fun x r hw h => ?_
  obtain ⟨l, t⟩ := x
  cases h
  refine (r89 l t).trans ?_
  simp only [makeR]
  rcases findR_cases l t with h1 | ⟨hl, h1⟩
  · rw [h1]; rfl
  · have hs := small_of hl
    have hs2 : decide ((l.length + [t].length) * 24 ≤ 140737488355328) = true := decide_eq_true (by simp; omega)
    rcases h1 with h1 | h1 <;> rw [h1]
    · rw [hs]; rfl
    · cases (l.length : Int) == 65536 with
      | true => rfl
      | false =>
        have : o89 l t = some (.tup [(false, [.int .i64 l.length]), (false, [.sl true Term none (l ++ [t])]), (false, [.int .i64 0])]) := by unfold o89; rw [hs, hs2]; rfl
        rw [this]
        exact allSame_rep _ 2
abbrev live26 : List (Nat × Dir) := [(0, .keep), (1, .keep), (4, .keep), (12, .keep), (13, .keep)]
def vs26 (a b : List Term.D) (r : Bool) (n i : Int) : List AV :=
  [.one (.sl false Term none a), .one (.sl false Term none b), .one (.bool r), .one (.int .i64 n), .one (.int .i64 i)]
def eqGo : List Term.D → List Term.D → Bool
  | a :: l, b :: m => bif eqD Term a b then eqGo l m else false
  | _, _ => true
/-- Where that stops. -/
def eqAt : List Term.D → List Term.D → Int → Int
  | a :: l, b :: m, i => bif eqD Term a b then eqAt l m (i + 1) else i
  | _, _, i => i
def Λ26 : Lam AV := fun cur vs K =>
  match cur, vs with
  | 0, [.one (.sl false (.pair (.int .i64) (.pair (.int .i64) (.int .i64))) none a), .one (.sl false (.pair (.int .i64) (.pair (.int .i64) (.int .i64))) none b), .one (.bool false), .one (.int .i64 n), .one (.int .i64 0)] =>
    bif decide (n = a.length) && decide (n ≤ 9223372036854775807) && decide (a.length = b.length) then
      bif eqGo a b then K (.exit 0) (vs26 a b false n n) else K .ret (vs26 a b false n (eqAt a b 0))
    else none
  | _, _ => none
theorem step26 (a b : List Term.D) (r : Bool) (n i : Int) (K : AE → List AV → Option AV) (fuel : Nat) :
    loopN (aexec tb (orc []) Λ26 ⟨26, 0, [(0, live26)]⟩ (loop1 F26).2 0) 26 0 live26 K (fuel + 1) (vs26 a b r n i) =
    bif decide (i < n) then
      bif inB i a.length then
        bif inB i b.length then
          bif !eqD Term (tAt a i) (tAt b i) then K .ret (vs26 a b false n i)
          else loopN (aexec tb (orc []) Λ26 ⟨26, 0, [(0, live26)]⟩ (loop1 F26).2 0) 26 0 live26 K fuel (vs26 a b r n (IntKind.i64.wrap (i + 1)))
        else none
      else none
    else K (.exit 0) (vs26 a b r n i) := by kernel_rfl
theorem loop26 : LoopP tb (orc []) Λ26 ⟨26, 0, [(0, live26)]⟩ (loop1 F26) := by
  intro vs K out h
  have hcur : (loop1 F26).1 = 0 := by kernel_rfl
  rw [hcur] at h ⊢
  unfold Λ26 at h
  split at h
  · rename_i a b n _
    cases hc : (decide (n = a.length) && decide (n ≤ 9223372036854775807) && decide (a.length = b.length)) with
    | false => rw [hc] at h; cases h
    | true =>
      rw [hc] at h
      simp only [cond_true] at h
      simp only [Bool.and_eq_true, decide_eq_true_eq] at hc
      obtain ⟨⟨rfl, hmax⟩, hl⟩ := hc
      refine upLoop (α := Unit) (n := a.length) (F := fun fuel _ i => loopN (aexec tb (orc []) Λ26 ⟨26, 0, [(0, live26)]⟩ (loop1 F26).2 0) 26 0 live26 K fuel (vs26 a b false a.length i))
        (G := fun j _ => bif eqGo (a.drop j) (b.drop j) then K (.exit 0) (vs26 a b false a.length a.length) else K .ret (vs26 a b false a.length (eqAt (a.drop j) (b.drop j) j)))
        (fun fuel _ => ?_) (fun _ j hj => ?_) a.length 0 () out (by omega) h
      · have e : eqGo (a.drop a.length) (b.drop a.length) = true := by simp [eqGo]
        simp only [step26, nlt_dec, cond_false, e, cond_true]
      · have hj' : j < b.length := by omega
        cases h1 : eqD Term (tAt a j) (tAt b j) with
        | false =>
          right; intro fuel
          simp only [step26, lt_dec hj, inB_lt hj, inB_lt hj', h1, cond_true, cond_false, tAt_drop hj, tAt_drop hj', eqGo, eqAt, Bool.not_false]
        | true =>
          left; refine ⟨(), fun fuel => ?_, ?_⟩
          · simp only [step26, lt_dec hj, inB_lt hj, inB_lt hj', h1, cond_true, cond_false, Bool.not_true]
            rw [wrap64 (by omega) (by omega)]; rfl
          · simp only [tAt_drop hj, tAt_drop hj', eqGo, eqAt, h1, cond_true]; rfl
  · cases h
theorem r26 (a b : List Term.D) : run (orc []) Λ26 [(0, live26)] F26 (encA [.v (.sl Term), .v (.sl Term)] (a, b)) [] =
    bif (a.length : Int) != b.length then ob false else
    bif decide ((a.length : Int) = a.length) && decide ((a.length : Int) ≤ 9223372036854775807) && decide (a.length = b.length) then
      bif eqGo a b then ob true else ob false
    else none := by kernel_rfl
theorem eqTD {a b : Term.D} : eqD Term a b = true ↔ a = b := by
  obtain ⟨a1, a2, a3⟩ := a
  obtain ⟨b1, b2, b3⟩ := b
  simp [eqD]
theorem eqGo_iff : ∀ {a b : List Term.D}, a.length = b.length → (eqGo a b = true ↔ a = b)
  | [], [], _ => by simp [eqGo]
  | a :: l, b :: m, h => by
    simp only [eqGo, List.cons.injEq]
    cases hq : eqD Term a b with
    | true => simp only [cond_true, eqGo_iff (show l.length = m.length by simpa using h), eqTD.1 hq, true_and]
    | false =>
      have : ¬ a = b := fun e => by rw [eqTD.2 e] at hq; cases hq
      simp [this]
  | [], _ :: _, h => by simp at h
  | _ :: _, [], h => by simp at h
def sameL (a b : List Term.D) : Bool := decide (a = b)
def s26 : Sp := .fn [.v (.sl Term), .v (.sl Term)] fun x => (true, .one (.bool (sameL x.1 x.2)))
theorem g26 : GoodS Tryz.prog N26 s26 := by
  refine good (.nil _) H26 rfl (by kernel_rfl) Λ26 [(0, live26)] (oneLoop (p0 := loop1 F26) (by kernel_rfl) loop26) [.v (.sl Term), .v (.sl Term)] (by decide) [] _ fun x r hw h => ?_
  obtain ⟨a, b⟩ := x
  cases h
  refine (r26 a b).trans ?_
  show _ = ob (sameL a b)
  unfold sameL
  cases hl : (a.length : Int) != b.length with
  | true =>
    have hne : a ≠ b := fun e => by subst e; simp at hl
    rw [decide_eq_false hne]; rfl
  | false =>
    have hl : a.length = b.length := by simp at hl; omega
    rw [len_max hw.1.1, decide_eq_true hl]
    simp only [Bool.and_self, cond_true, cond_false]
    cases hq : eqGo a b with
    | true => rw [decide_eq_true ((eqGo_iff hl).1 hq)]; rfl
    | false => rw [decide_eq_false (fun e => by rw [(eqGo_iff hl).2 e] at hq; cases hq)]; rfl

theorem bool_iff {a b : Bool} (h : a = true ↔ b = true) : a = b := by
  cases a <;> cases b <;> simp at h <;> rfl
theorem cond_iff {a b c : Bool} : (bif a then b else c) = true ↔ (a = true ∧ b = true) ∨ (a = false ∧ c = true) := by cases a <;> simp
theorem out5 (k : Int) (h1 : ¬ k = 1) (h2 : ¬ k = 2) (h3 : ¬ k = 3) (h4 : ¬ k = 4) (h5 : ¬ k = 5) (h : ¬ k < 1) : k > 5 := by omega
theorem mayR_eq (t : Term.D) (i : Int) : mayR t i = mayB t i := by
  obtain ⟨k, a, b⟩ := t
  have lt : ∀ a b : Int, decide (a < b) = !decide (b ≤ a) := fun a b => by
    by_cases h : a < b
    · rw [decide_eq_true h, decide_eq_false (by omega)]; rfl
    · rw [decide_eq_false h, decide_eq_true (by omega)]; rfl
  by_cases h1 : k = 1
  · subst h1
    simp only [mayR, mayB, mayBad, a90, ge_iff_le, bne]
    cases decide (0 ≤ a) <;> cases decide (a ≤ 1048576) <;> cases (b == 0) <;> rfl
  by_cases h2 : k = 2
  · subst h2
    have ep : partsL (2, a, b) = [a] := rfl
    simp only [mayR, mayB, mayBad, b90, ep, List.any, badP, ge_iff_le, lt, bne]
    cases decide (0 ≤ a) <;> cases decide (i ≤ a) <;> cases (b == 0) <;> rfl
  by_cases h3 : k = 3
  · subst h3
    have ep : partsL (3, a, b) = [a] := rfl
    simp only [mayR, mayB, mayBad, b90, ep, List.any, badP, ge_iff_le, lt, bne]
    cases decide (0 ≤ a) <;> cases decide (i ≤ a) <;> cases (b == 0) <;> rfl
  by_cases h4 : k = 4
  · subst h4
    have ep : partsL (4, a, b) = [a] := rfl
    simp only [mayR, mayB, mayBad, b90, ep, List.any, badP, ge_iff_le, lt, bne]
    cases decide (0 ≤ a) <;> cases decide (i ≤ a) <;> cases (b == 0) <;> rfl
  by_cases h5 : k = 5
  · subst h5
    have ep : partsL (5, a, b) = [a, b] := rfl
    simp only [mayR, mayB, mayBad, c90, ep, List.any, badP, ge_iff_le, lt, bne]
    cases decide (0 ≤ a) <;> cases decide (i ≤ a) <;> cases decide (0 ≤ b) <;> cases decide (i ≤ b) <;> rfl
  · have e1 : (k == 1) = false := by simpa using h1
    have e2 : (k == 2) = false := by simpa using h2
    have e3 : (k == 3) = false := by simpa using h3
    have e4 : (k == 4) = false := by simpa using h4
    have e5 : (k == 5) = false := by simpa using h5
    have hk : (bif decide (k < 1) then true else decide (k > 5)) = true := by
      rw [cond_iff]
      by_cases h : k < 1
      · exact .inl ⟨decide_eq_true h, rfl⟩
      · exact .inr ⟨decide_eq_false h, decide_eq_true (out5 k h1 h2 h3 h4 h5 h)⟩
    simp only [mayR, mayB, mayBad, e1, e2, e3, e4, e5, hk, cond_false, cond_true]
theorem eqT_comm (a b : Term.D) : eqD Term a b = eqD Term b a := bool_iff (by rw [eqT, eqT]; exact eq_comm)
/-- Where a term is, by definition. -/
theorem plGo_mem {t : Term.D} : ∀ {l : List Term.D} {i : Int}, 0 ≤ i → (0 ≤ plGo t l i ↔ t ∈ l) := by
  intro l
  induction l with
  | nil => intro i _; simp [plGo]
  | cons x xs ih =>
    intro i hi
    simp only [plGo]
    cases h : eqD Term x t with
    | true => simp [eqT.1 h, hi]
    | false =>
      have := eqT_false.1 h
      simp only [cond_false, ih (Int.le_add_one hi), List.mem_cons]
      exact ⟨fun h => .inr h, fun h => h.resolve_left (fun e => this e.symm)⟩
theorem plGo_ents {t : Term.D} : ∀ {l : List Term.D} {i : Int}, t ∈ l → mgetD t (entsFrom l i) = plGo t l i := by
  intro l
  induction l with
  | nil => intro i h; cases h
  | cons x xs ih =>
    intro i h
    simp only [entsFrom, plGo, mgetD, mget]
    rw [eqT_comm]
    cases hq : eqD Term x t with
    | true => rfl
    | false =>
      have := eqT_false.1 hq
      have := ih (i := i + 1) ((List.mem_cons.1 h).resolve_left (fun e => this e.symm))
      unfold mgetD at this
      simpa using this
theorem ckGo_iff (l : List Term.D) : ∀ (r : List Term.D) (p : List Term.D), l = p ++ r → (ckGo l r p.length = true ↔ ∀ (j : Nat) (t : Term.D), r[j]? = some t → mayB t ((p.length : Int) + j) = true ∧ t ∉ p ++ r.take j) := by
  intro r
  induction r with
  | nil => intro p _; simp [ckGo]
  | cons a r ih =>
    intro p hl
    simp only [ckGo]
    have e1 : (p.length : Int) + 1 = ((p ++ [a]).length : Nat) := by simp
    have ht : l.take ((p.length : Int).toNat) = p := by rw [hl]; simp
    have hb : ckBad l a p.length = false ↔ mayB a p.length = true ∧ a ∉ p := by
      unfold ckBad
      rw [ht, mayR_eq]
      cases mayB a p.length with
      | false => simp
      | true =>
        have := plGo_mem (t := a) (l := p) (i := 0) (by omega)
        simp [← this]
    cases hc : ckBad l a p.length with
    | true =>
      simp only [cond_true]
      refine ⟨fun h => (by cases h), fun h => ?_⟩
      have := h 0 a rfl
      have : ckBad l a p.length = false := hb.2 ⟨by simpa using this.1, by simpa using this.2⟩
      rw [this] at hc; cases hc
    | false =>
      simp only [cond_false]
      obtain ⟨g1, g2⟩ := hb.1 hc
      rw [e1, ih (p ++ [a]) (by simp [hl])]
      refine ⟨fun h j t hj => ?_, fun h j t hj => ?_⟩
      · cases j with
        | zero =>
          simp only [List.getElem?_cons_zero, Option.some.injEq] at hj
          subst hj
          simpa [g1] using g2
        | succ j =>
          have := h j t (by simpa using hj)
          refine ⟨?_, by simpa using this.2⟩
          have h3 := this.1
          rw [← e1] at h3
          rw [← h3]; congr 1; omega
      · have := h (j + 1) t (by simpa using hj)
        refine ⟨?_, by simpa using this.2⟩
        have h3 := this.1
        rw [← e1, ← h3]; congr 1; omega
theorem checkR_eq (l : List Term.D) : checkR l = checkL l := by
  have key : checkR l = 0 ↔ GoodL l := by
    unfold checkR
    cases h : decide ((l.length : Int) > 65536) with
    | true =>
      refine ⟨fun h => (by simp at h), fun h' => ?_⟩
      have := h'.1
      simp at h; omega
    | false =>
      simp only [cond_false]
      have := ckGo_iff l l [] rfl
      simp only [List.length_nil, List.nil_append] at this
      have e : (((0 : Nat) : Int)) = 0 := rfl
      rw [e] at this
      cases hc : ckGo l l 0 with
      | true =>
        rw [hc] at this
        refine ⟨fun _ => ⟨by simp at h; omega, fun j t hj => ?_⟩, fun _ => rfl⟩
        simpa using this.1 rfl j t hj
      | false =>
        rw [hc] at this
        refine ⟨fun h => (by simp at h), fun h' => ?_⟩
        have := this.2 (fun j t hj => by simpa using h'.2 j t hj)
        cases this
  have h1 : checkR l = 0 ∨ checkR l = 1 := by
    unfold checkR
    cases decide ((l.length : Int) > 65536) <;> cases ckGo l l 0 <;> simp
  rcases checkL_cases l with ⟨h2, _⟩ | ⟨h2, _⟩
  · rw [h2]; exact key.2 (checkL_iff.1 h2)
  · rw [h2]
    refine h1.resolve_left fun h => ?_
    have := checkL_iff.2 (key.1 h)
    omega
theorem findR_eq (l : List Term.D) (t : Term.D) : findR l t = findL l t := by
  have hb : findRBad l t = findBad l t := by
    unfold findRBad findBad
    rw [checkR_eq, mayR_eq]
    rcases checkL_cases l with ⟨h1, h2⟩ | ⟨h1, h2⟩ <;> rw [h1, h2] <;> rfl
  unfold findR findL
  rw [hb]
  cases hq : findBad l t with
  | true => rfl
  | false =>
    have hg : GoodL l := by
      unfold findBad at hq
      cases h : (ixL l).1 with
      | true => exact ixL_iff.1 h
      | false => rw [h] at hq; cases hq
    simp only [cond_false, ixEnts_eq hg]
    have h1 := plGo_mem (t := t) (l := l) (i := 0) (Int.le_refl 0)
    have h2 := mhas_ents (t := t) (l := l) (i := 0)
    by_cases hm : t ∈ l
    · have e1 : decide (plGo t l 0 < 0) = false := decide_eq_false (Int.not_lt.2 (h1.2 hm))
      rw [e1, h2.2 hm, plGo_ents hm]; rfl
    · have e1 : decide (plGo t l 0 < 0) = true := decide_eq_true (Int.not_le.1 fun h => hm (h1.1 h))
      have e2 : mhas t (entsFrom l 0) = false := by
        cases h : mhas t (entsFrom l 0) with
        | false => rfl
        | true => exact absurd (h2.1 h) hm
      rw [e1, e2]; rfl
theorem makeR_eq (l : List Term.D) (t : Term.D) : makeR l t = makeL l t := by
  unfold makeR makeL
  rw [← findR_eq]
  rcases findR_cases l t with h | ⟨_, h | h⟩ <;> rw [h] <;> rfl
def xorU (a b : Int) : Int := IntKind.u64.wrap (BitVec.ofInt 64 a ^^^ BitVec.ofInt 64 b).toNat
def xorB (a b : Block.D) : Block.D := (xorU a.1 b.1, xorU a.2 b.2)
abbrev live86 : List (Nat × Dir) := [(2, .keep), (4, .keep), (7, .keep), (8, .keep)]
def Λ86 : Lam AV := fun cur vs K =>
  match cur, vs with
  | 0, [.own [.int .u64 a, .int .u64 b], .own [.int .u64 e, .int .u64 f], .agg [.int .u64 c, .int .u64 d], .one (.int .i64 0)] =>
    K (.exit 0) [.own [.int .u64 (xorU a c), .int .u64 (xorU b d)], .own [.int .u64 e, .int .u64 f], .agg [.int .u64 c, .int .u64 d], .one (.int .i64 2)]
  | _, _ => none
theorem loop86 : LoopP tb (orc []) Λ86 ⟨20, 0, [(0, live86)]⟩ (loop1 F86) := by
  intro vs K out h
  have hcur : (loop1 F86).1 = 0 := by kernel_rfl
  rw [hcur] at h ⊢
  unfold Λ86 at h
  split at h
  · rename_i a b e f c d _
    refine ⟨3, Eq.trans ?_ h⟩
    kernel_rfl
  · cases h
def s86 : Sp := .fn [.v Block, .v Block] fun x => (true, encV Block (xorB x.1 x.2))
theorem r86 (x y : Block.D) : run (orc []) Λ86 [(0, live86)] F86 (encA [.v Block, .v Block] (x, y)) [] = some (encV Block (xorB x y)) := by kernel_rfl
theorem g86 : GoodS Tryz.prog N86 s86 := by
  refine good (.nil _) H86 rfl (by kernel_rfl) Λ86 [(0, live86)] (oneLoop (p0 := loop1 F86) (by kernel_rfl) loop86) [.v Block, .v Block] (by decide) [] _ fun x r hw h => ?_
  cases h
  exact r86 x.1 x.2
def rotN (n : Int) : Int := IntKind.u64.wrap (BitVec.ofInt 64 (IntKind.u64.wrap n) &&& BitVec.ofInt 64 63).toNat
def rotU (a n : Int) : Int := IntKind.u64.wrap (BitVec.ofInt 64 (IntKind.u64.wrap (a * 2 ^ min (rotN n).toNat 64)) ||| BitVec.ofInt 64 (a.fdiv (2 ^ min (IntKind.u64.wrap (64 - rotN n)).toNat 64))).toNat
theorem r106 (a n : Int) : run (orc []) noL [] F106 (encA [.v U, .v I] (a, n)) [] = bif decide (0 ≤ rotN n) then (bif decide (0 ≤ IntKind.u64.wrap (64 - rotN n)) then some (.one (.int .u64 (rotU a n))) else none) else none := by kernel_rfl
def s106 : Sp := .fn [.v U, .v I] fun x => (true, .one (.int .u64 (rotU x.1 x.2)))
theorem g106 : GoodS Tryz.prog N106 s106 := by
  refine good (.nil _) H106 rfl (by kernel_rfl) noL [] (noLoops (by kernel_rfl)) [.v U, .v I] (by decide) [] _ fun x r hw h => ?_
  cases h
  refine (r106 x.1 x.2).trans ?_
  rw [decide_eq_true (show 0 ≤ rotN x.2 from wrapU_nonneg _), decide_eq_true (wrapU_nonneg (64 - rotN x.2))]
  rfl
def mixStep (k : Int) (x : Block.D) : Block.D :=
  let a := rotU (IntKind.u64.wrap (IntKind.u64.wrap (x.1 + x.2) + IntKind.u64.wrap (k * 11400714819323198485))) 13
  let b := rotU (xorU x.2 a) 29
  (xorU a b, b)
def mixGo : Nat → Int → Block.D → Block.D
  | 0, _, x => x
  | n + 1, k, x => mixGo n (k + 1) (mixStep k x)
def mixB (x : Block.D) : Block.D := mixGo 8 0 x
abbrev live92 : List (Nat × Dir) := [(2, .keep), (3, .keep), (4, .keep), (10, .keep)]
def Γ92 : Orc := orc [(N106, s106)]
def Λ92 : Lam AV := fun cur vs K =>
  match cur, vs with
  | 0, [.own [.int .u64 e, .int .u64 f], .one (.int .u64 x), .one (.int .u64 y), .one (.int .u64 0)] =>
    K (.exit 0) [.own [.int .u64 e, .int .u64 f], .one (.int .u64 (mixB (x, y)).1), .one (.int .u64 (mixB (x, y)).2), .one (.int .u64 8)]
  | _, _ => none
theorem step92 (e f x y k : Int) (K : AE → List AV → Option AV) (fuel : Nat) :
    loopN (aexec tb Γ92 Λ92 ⟨31, 0, [(0, live92)]⟩ (loop1 F92).2 0) 31 0 live92 K (fuel + 1) [.own [.int .u64 e, .int .u64 f], .one (.int .u64 x), .one (.int .u64 y), .one (.int .u64 k)] =
    bif decide (k < 8) then loopN (aexec tb Γ92 Λ92 ⟨31, 0, [(0, live92)]⟩ (loop1 F92).2 0) 31 0 live92 K fuel
        [.own [.int .u64 e, .int .u64 f], .one (.int .u64 (mixStep k (x, y)).1), .one (.int .u64 (mixStep k (x, y)).2), .one (.int .u64 (IntKind.u64.wrap (k + 1)))]
    else K (.exit 0) [.own [.int .u64 e, .int .u64 f], .one (.int .u64 x), .one (.int .u64 y), .one (.int .u64 k)] := by kernel_rfl
theorem loop92 : LoopP tb Γ92 Λ92 ⟨31, 0, [(0, live92)]⟩ (loop1 F92) := by
  intro vs K out h
  have hcur : (loop1 F92).1 = 0 := by kernel_rfl
  rw [hcur] at h ⊢
  unfold Λ92 at h
  split at h
  · rename_i e f x y _
    have key : ∀ (n : Nat) (k : Int) (x y : Int), k + n = 8 → 0 ≤ k → K (.exit 0) [.own [.int .u64 e, .int .u64 f], .one (.int .u64 (mixGo n k (x, y)).1), .one (.int .u64 (mixGo n k (x, y)).2), .one (.int .u64 8)] = some out →
        ∃ fuel, loopN (aexec tb Γ92 Λ92 ⟨31, 0, [(0, live92)]⟩ (loop1 F92).2 0) 31 0 live92 K fuel [.own [.int .u64 e, .int .u64 f], .one (.int .u64 x), .one (.int .u64 y), .one (.int .u64 k)] = some out := by
      intro n
      induction n with
      | zero =>
        intro k x y hk _ h
        obtain rfl : k = 8 := by omega
        refine ⟨1, ?_⟩
        rw [step92]
        exact h
      | succ n ih =>
        intro k x y hk h0 h
        obtain ⟨fuel, hf⟩ := ih (k + 1) (mixStep k (x, y)).1 (mixStep k (x, y)).2 (by omega) (by omega) h
        refine ⟨fuel + 1, ?_⟩
        rw [step92, decide_eq_true (show k < 8 by omega), wrapU (by omega) (by omega)]
        exact hf
    exact key 8 0 x y rfl (Int.le_refl 0) h
  · cases h
def s92 : Sp := .fn [.v Block] fun x => (true, encV Block (mixB x))
theorem r92 (x : Block.D) : run Γ92 Λ92 [(0, live92)] F92 (encA [.v Block] x) [] = some (encV Block (mixB x)) := by kernel_rfl
theorem g92 : GoodS Tryz.prog N92 s92 := by
  refine good (.cons g106 (.nil _)) H92 rfl (by kernel_rfl) Λ92 [(0, live92)] (oneLoop (p0 := loop1 F92) (by kernel_rfl) loop92) [.v Block] (by decide) [] _ fun x r hw h => ?_
  cases h
  exact r92 x
def partB (b : Block.D) (i : Int) : Block.D := xorB (mixB (xorB b (IntKind.u64.wrap (IntKind.i64.wrap (i + 1)), 0))) b
def Γ53 : Orc := orc [(N86, s86), (N92, s92)]
theorem r53 (b : Block.D) (i : Int) : run Γ53 noL [] F53 (encA [.v Block, .v I] (b, i)) [] =
    bif bif decide (i < 0) then true else decide (i > 4) then some (.tup [(true, enc Block true (0, 0)), (false, [.int .i64 1])]) else
    some (.tup [(true, enc Block true (partB b i)), (false, [.int .i64 0])]) := by kernel_rfl
def partR (b : Block.D) (i : Int) : Block.D × Int := bif bif decide (i < 0) then true else decide (i > 4) then ((0, 0), 1) else (partB b i, 0)
def s53 : Sp := .fn [.v Block, .v I] fun x => (true, .tup [(true, enc Block true (partR x.1 x.2).1), (false, [.int .i64 (partR x.1 x.2).2])])
theorem g53 : GoodS Tryz.prog N53 s53 := by
  refine good (.cons g86 (.cons g92 (.nil _))) H53 rfl (by kernel_rfl) noL [] (noLoops (by kernel_rfl)) [.v Block, .v I] (by decide) [] _ fun x r hw h => ?_
  cases h
  refine (r53 x.1 x.2).trans ?_
  unfold partR
  cases bif decide (x.2 < 0) then true else decide (x.2 > 4) <;> rfl
end Go.AM.Seat
