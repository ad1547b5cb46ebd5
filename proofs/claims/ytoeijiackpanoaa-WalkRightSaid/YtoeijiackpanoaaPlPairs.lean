/- Plain: the definition's pairs, and its ways, are the code's own. -/
import Derived.Test.YtoeijiackpanoaaSeM3
import Derived.Test.YtoeijiackpanoaaPlSides
set_option linter.unusedVariables false
set_option maxRecDepth 100000
namespace Go.AM.Seat
open Go Go.AM Go.Proofs

theorem chain_at {L d : Nat} (h : d ≤ L.log2) : iAt (chainN L) (d : Int) = ((L / 2 ^ (L.log2 - d) : Nat) : Int) := by
  unfold iAt chainN
  rw [Int.toNat_natCast, List.getD_eq_getElem?_getD, List.getElem?_map, List.getElem?_range (by omega)]
  rfl
theorem wG_eq {h leaf : Int} : ∀ (m j : Nat) (out : List (Int × Int)), wG h leaf m j out = out ++ (List.range m).map fun i => (shrI leaf (h - ((j + i : Nat) : Int)), 0) := by
  intro m
  induction m with
  | zero => intro j out; simp [wG]
  | succ m ih =>
    intro j out
    rw [wG, ih, List.range_succ_eq_map, List.map_cons, List.map_map, List.append_assoc]
    congr 1
    show _ = [(shrI leaf (h - ((j + 0 : Nat) : Int)), 0)] ++ _
    congr 1
    apply List.map_congr_left
    intro i _
    show (shrI leaf (h - ((j + 1 + i : Nat) : Int)), (0 : Int)) = (shrI leaf (h - ((j + (i + 1) : Nat) : Int)), 0)
    rw [show j + 1 + i = j + (i + 1) by omega]
/-- A leaf's numbers. -/
structure LeafAt (H x : Nat) : Prop where
  h1 : 1 ≤ H
  h2 : H ≤ 32
  hx : x < 2 ^ H
theorem LeafAt.log {H x : Nat} (a : LeafAt H x) : (leafN H x).log2 = H := leafN_log2 a.hx
theorem LeafAt.lt {H x : Nat} (a : LeafAt H x) : leafN H x < 2 ^ 34 := leafN_lt a.h2 a.hx
theorem LeafAt.shr {H x d : Nat} (a : LeafAt H x) (hd : d ≤ H) : shrI ((leafN H x : Nat) : Int) ((H : Int) - (d : Int)) = iAt (chainN (leafN H x)) (d : Int) := by
  rw [chain_at (by rw [a.log]; exact hd), a.log, show (H : Int) - (d : Int) = ((H - d : Nat) : Int) by omega, shr_nat (by omega) (by have := a.h2; omega), Int.toNat_natCast, Int.toNat_natCast]
theorem LeafAt.len {H x : Nat} (a : LeafAt H x) : (chainN (leafN H x)).length = H + 1 := by rw [chainN_len, a.log]
theorem LeafAt.whole {H x : Nat} (a : LeafAt H x) : wG (H : Int) ((leafN H x : Nat) : Int) (H + 1) 0 [] = wL (chainN (leafN H x)) := by
  rw [wG_eq, List.nil_append]
  unfold wL chainN
  rw [a.log, List.map_map]
  apply List.map_congr_left
  intro d hd
  have hd := List.mem_range.1 hd
  show (shrI _ ((H : Int) - ((0 + d : Nat) : Int)), (0 : Int)) = (((leafN H x / 2 ^ (H - d) : Nat) : Int), 0)
  rw [Nat.zero_add, a.shr (by omega), chain_at (by rw [a.log]; omega), a.log]
theorem U64 {n : Nat} (h : n < 2 ^ 64) : IntKind.u64.has (n : Int) := ⟨by show (0 : Int) ≤ n; omega, by show (n : Int) ≤ 18446744073709551615; omega⟩
theorem LeafAt.pr {H x t d : Nat} (a : LeafAt H x) (ht : t < d) (hd : d ≤ H) (k : Int) (hk : k = 2 ∨ k = 3) :
    prP (H : Int) ((leafN H x : Nat) : Int) t d = (iAt (chainN (leafN H x)) (t : Int), (othI (H : Int) (iAt (chainN (leafN H x)) (d : Int))).1) ∧
    keepB (H : Int) k (prP (H : Int) ((leafN H x : Nat) : Int) t d) = (bif k == 2 then true else (useI (H : Int) (prP (H : Int) ((leafN H x : Nat) : Int) t d)).1) := by
  have hl := a.log
  have hb := a.lt
  have hne := leafN_ne (h := H) (i := x)
  have ec : ∀ {y : Nat}, y ≤ H → iAt (chainN (leafN H x)) (y : Int) = ((leafN H x / 2 ^ (H - y) : Nat) : Int) := fun {y} hy => by rw [chain_at (by rw [hl]; exact hy), hl]
  have ep := prP_nat a.h2 a.hx ht hd
  obtain ⟨q1, q2⟩ := pair_has a.h1 a.h2 a.hx ht hd
  have b1 : leafN H x / 2 ^ (H - t) < 2 ^ 64 := Nat.lt_of_le_of_lt (Nat.div_le_self _ _) (by omega)
  have b0 : leafN H x / 2 ^ (H - d) < 2 ^ 64 := Nat.lt_of_le_of_lt (Nat.div_le_self _ _) (by omega)
  have b2 : (leafN H x / 2 ^ (H - d)) ^^^ 1 < 2 ^ 64 := Nat.xor_lt_two_pow b0 (by decide)
  have nd : leafN H x / 2 ^ (H - d) ≠ 0 := div_pos hne (by rw [hl]; omega)
  have ld : (leafN H x / 2 ^ (H - d)).log2 = d := by rw [log2_div hne (by rw [hl]; omega), hl]; omega
  have nd2 : 2 ≤ leafN H x / 2 ^ (H - d) := by
    have := log2_le nd
    rw [ld] at this
    have : 2 ^ 1 ≤ 2 ^ d := Nat.pow_le_pow_right (by decide) (by omega)
    omega
  have hz1 : (((leafN H x / 2 ^ (H - d) : Nat) : Int) == 1) = false := beq_eq_false_iff_ne.2 (fun e => absurd (show leafN H x / 2 ^ (H - d) = 1 by exact_mod_cast e) (by omega))
  have eo : (othI (H : Int) (((leafN H x / 2 ^ (H - d) : Nat) : Int))).1 = (((leafN H x / 2 ^ (H - d)) ^^^ 1 : Nat) : Int) := by
    unfold othI mayN
    rw [Int.toNat_natCast, Int.toNat_natCast, okN_iff.2 ⟨a.h1, a.h2, by omega, (okN_log nd).2 (by omega)⟩, hz1]
    simp only [Bool.not_true, cond_false]
    exact xor_nat b0
  refine ⟨by rw [ep, ec (show t ≤ H by omega), ec hd, eo], ?_⟩
  rw [ep]
  have nx : (leafN H x / 2 ^ (H - d)) ^^^ 1 ≠ 0 := by
    intro h0
    have := xor_one_log2 nd2
    rw [h0, Nat.log2_zero, ld] at this
    omega
  have hz : ((((leafN H x / 2 ^ (H - d)) ^^^ 1 : Nat) : Int) == 0) = false := beq_eq_false_iff_ne.2 (fun e => nx (by exact_mod_cast e))
  obtain ⟨_, _, _, _, _, u6⟩ := use_ok (h := (H : Int)) (s := (((leafN H x / 2 ^ (H - t) : Nat) : Int), (((leafN H x / 2 ^ (H - d)) ^^^ 1 : Nat) : Int))) (U64 b1) (U64 b2) (by simp only [Int.toNat_natCast]; exact q1) hz
  unfold keepB
  rw [u6]
  rcases hk with rfl | rfl
  · rfl
  · cases (bif spB (depI ((leafN H x / 2 ^ (H - t) : Nat) : Int)) (stepN (H : Int)) (H : Int) then true else decide (depI (((leafN H x / 2 ^ (H - d)) ^^^ 1 : Nat) : Int) ≤ nxI (depI ((leafN H x / 2 ^ (H - t) : Nat) : Int)) (stepN (H : Int)) (H : Int))) <;> rfl
theorem LeafAt.inner {H x t : Nat} (a : LeafAt H x) (k : Int) (hk : k = 2 ∨ k = 3) : ∀ (m d : Nat) (out : List (Int × Int)), t < d → d + m = H + 1 →
    inG (H : Int) k ((leafN H x : Nat) : Int) t m d out = inL (H : Int) k (iAt (chainN (leafN H x)) (t : Int)) ((chainN (leafN H x)).drop d) out := by
  intro m
  induction m with
  | zero => intro d out _ hd; rw [List.drop_of_length_le (by rw [a.len]; omega)]; rfl
  | succ m ih =>
    intro d out ht hd
    obtain ⟨e1, e2⟩ := a.pr ht (show d ≤ H by omega) k hk
    rw [inG, ih (d + 1) _ (by omega) (by omega), iAt_drop (j := d) (by rw [a.len]; omega), inL, e2, ← e1]
theorem LeafAt.outer {H x : Nat} (a : LeafAt H x) (k : Int) (hk : k = 2 ∨ k = 3) : ∀ (m t : Nat) (out : List (Int × Int)), t + m = H →
    outG (H : Int) k ((leafN H x : Nat) : Int) m t out = outL (H : Int) k ((chainN (leafN H x)).drop t) out := by
  intro m
  induction m with
  | zero =>
    intro t out ht
    rw [iAt_drop (j := t) (by rw [a.len]; omega), List.drop_of_length_le (by rw [a.len]; omega)]; rfl
  | succ m ih =>
    intro t out ht
    rw [outG, ih (t + 1) _ (by omega), iAt_drop (j := t) (by rw [a.len]; omega), outL, Int.toNat_natCast, a.inner k hk (H - t) (t + 1) out (by omega) (by omega)]
theorem many_zero {h k : Int} (h1 : highB h = true) (hk : 1 ≤ k ∧ k ≤ 3) : (manyV h k).2 = 0 := by
  have c0 : (chkI h 1 != 0) = false := by
    have := highB_iff.1 h1
    rw [chk_ne (by decide)]
    show (!okN h.toNat 1) = false
    rw [okN_one, decide_eq_true (show 1 ≤ h.toNat by omega), decide_eq_true (show h.toNat ≤ 32 by omega)]; rfl
  have e0 : stepI h = (stepN h, 0) := by unfold stepI; rw [c0]; rfl
  have e1 : (pairsI h).2 = 0 := by unfold pairsI; rw [e0]; rfl
  unfold manyV
  rw [e1]
  have : k = 1 ∨ k = 2 ∨ k = 3 := by omega
  rcases this with rfl | rfl | rfl <;> rfl
theorem len64 {l : List Int} (h : l.length ≤ 64) : (decide ((l.length : Int) = l.length) && decide ((l.length : Int) ≤ 64)) = true := by
  rw [decide_eq_true (show ((l.length : Int)) = l.length from rfl), decide_eq_true (show (l.length : Int) ≤ 64 by omega)]; rfl
theorem refP_eq {h k i : Int} (hi : IntKind.u64.has i) : refP h k i = some (rls (pairsL h k i).1 (pairsL h k i).2) := by
  obtain ⟨c0, c1, c2⟩ := hasU hi
  unfold refP pairsL noPr
  cases hl : (leafI h i).2 != 0 with
  | true =>
    have : (bif (manyV h k).2 != 0 then true else true) = true := by cases (manyV h k).2 != 0 <;> rfl
    rw [this]; rfl
  | false =>
    have hlo : leafOk h.toNat i.toNat = true := by rw [leaf_ne c0 c1] at hl; simpa using hl
    obtain ⟨l1, l2, l3⟩ := leafOk_iff.1 hlo
    have hh : highB h = true := highB_iff.2 (by omega)
    by_cases hk : 1 ≤ k ∧ k ≤ 3
    · rw [many_zero hh hk, decide_eq_false (show ¬ k < 1 by omega), decide_eq_false (show ¬ k > 3 by omega)]
      have ev := leaf_val c0 c1 hlo
      obtain ⟨H, rfl⟩ := Int.eq_ofNat_of_zero_le (show 0 ≤ h by omega)
      rw [Int.toNat_natCast] at l1 l2 l3 ev
      rw [ev, Int.toNat_natCast, Int.toNat_natCast]
      have a : LeafAt H i.toNat := ⟨l1, l2, l3⟩
      have hp := leafN_ne (h := H) (i := i.toNat)
      rw [decide_eq_true (show (1 : Int) ≤ ((leafN H i.toNat : Nat) : Int) by omega), len64 (by rw [a.len]; omega), decide_eq_true (show chainN (leafN H i.toNat) = chainN (leafN H i.toNat) from rfl), decide_eq_true (show ([(1, 0)] : List (Int × Int)).length ≤ 1 from Nat.le_refl 1)]
      cases k1 : k == 1 with
      | true => rw [a.whole]; rfl
      | false =>
        have k1 : k ≠ 1 := by simpa using k1
        rw [a.outer k (by omega) H 0 _ (by omega), List.drop_zero]; rfl
    · have e1 : ((manyV h k).2 != 0) = true := by
        cases e : (manyV h k).2 != 0 with
        | true => rfl
        | false => exact absurd (many_ok e).2.2.1 (by omega)
      have e2 : (bif bif false then true else decide (k < 1) then true else decide (k > 3)) = true := by
        cases e : decide (k < 1) with
        | true => rfl
        | false => have := of_decide_eq_false e; exact decide_eq_true (by omega)
      rw [e1, e2]; rfl
theorem g334 : GoodS Try.prog N334 s310 := by
  refine good (.cons g344 (.cons g370 (.cons g371 (.cons g372 (.nil _))))) H334 rfl (by kernel_rfl) Λ334 live334 (threeLoops (p0 := loopK F334 0) (p1 := loopK F334 1) (p2 := loopK F334 2) (by kernel_rfl) loop334a loop334b loop334c) [.v I, .v I, .v U] (by decide) [.sl true Subset] _ fun x r hw e => ?_
  obtain ⟨h, k, i⟩ := x
  cases e
  exact (r334 h k i).trans (refP_eq hw.2.2)

theorem accL_eq (a : Int) : ∀ (l out : List Int), accL a l out = out ++ (l.filter (selB a)).map bitO := by
  intro l
  induction l with
  | nil => intro out; simp [accL]
  | cons x l ih =>
    intro out
    rw [accL, ih]
    cases hx : selB a x with
    | true => rw [List.filter_cons_of_pos hx]; simp
    | false => rw [List.filter_cons_of_neg (by rw [hx]; decide)]; simp
theorem sel_at {a b d : Nat} (ha : a ≠ 0) (hb : b ≠ 0) (h : abv a b = true) (hd : d ≤ b.log2) : selB (a : Int) ((b / 2 ^ (b.log2 - d) : Nat) : Int) = decide (a.log2 < d) := by
  obtain ⟨h1, h2⟩ := abv_iff.1 h
  have hx : b / 2 ^ (b.log2 - d) ≠ 0 := div_pos hb (by omega)
  have lx : (b / 2 ^ (b.log2 - d)).log2 = d := by rw [log2_div hb (by omega)]; omega
  have x1 := log2_le hx
  have x2 := lt_log2 (n := b / 2 ^ (b.log2 - d))
  rw [lx] at x1 x2
  have a1 := log2_le ha
  have a2 := lt_log2 (n := a)
  unfold selB isI
  rw [Int.toNat_natCast, Int.toNat_natCast]
  rcases Nat.lt_trichotomy a.log2 d with hc | hc | hc
  · have : 2 ^ (a.log2 + 1) ≤ 2 ^ d := Nat.pow_le_pow_right (by decide) hc
    rw [decide_eq_true hc, decide_eq_true (by omega)]
    refine abv_iff.2 ⟨by omega, ?_⟩
    rw [lx, div_div_pow, show b.log2 - d + (d - a.log2) = b.log2 - a.log2 by omega, h2]
  · subst hc
    rw [h2, decide_eq_false (show ¬ (a : Int) > (a : Int) by omega), decide_eq_false (show ¬ a.log2 < a.log2 by omega)]; rfl
  · have : 2 ^ (d + 1) ≤ 2 ^ a.log2 := Nat.pow_le_pow_right (by decide) hc
    rw [decide_eq_false (show ¬ a.log2 < d by omega), decide_eq_false (by omega)]; rfl
theorem filter_range {A B : Nat} (h : A ≤ B) : (List.range (B + 1)).filter (fun d => decide (A < d)) = (List.range (B - A)).map (fun m => A + 1 + m) := by
  rw [show B + 1 = (A + 1) + (B - A) by omega, List.range_add, List.filter_append]
  have e1 : (List.range (A + 1)).filter (fun d => decide (A < d)) = [] := by
    rw [List.filter_eq_nil_iff]
    intro d hd
    have := List.mem_range.1 hd
    simp; omega
  rw [e1, List.nil_append, List.filter_eq_self.2]
  intro x hx
  obtain ⟨m, _, rfl⟩ := List.mem_map.1 hx
  simp; omega
theorem accL_chain {a b : Nat} (ha : a ≠ 0) (hb : b ≠ 0) (h : abv a b = true) : accL a (chainN b) [] = (List.range (b.log2 - a.log2)).map fun m => ((b / 2 ^ (b.log2 - a.log2 - 1 - m) % 2 : Nat) : Int) := by
  have h1 := (abv_iff.1 h).1
  rw [accL_eq, List.nil_append]
  unfold chainN
  rw [List.filter_map]
  have e : (List.range (b.log2 + 1)).filter (selB (a : Int) ∘ fun d => ((b / 2 ^ (b.log2 - d) : Nat) : Int)) = (List.range (b.log2 + 1)).filter (fun d => decide (a.log2 < d)) := by
    apply List.filter_congr
    intro d hd
    exact sel_at ha hb h (by have := List.mem_range.1 hd; omega)
  rw [e, filter_range h1, List.map_map, List.map_map]
  apply List.map_congr_left
  intro m hm
  have hm := List.mem_range.1 hm
  show bitO ((b / 2 ^ (b.log2 - (a.log2 + 1 + m)) : Nat) : Int) = _
  rw [show b.log2 - (a.log2 + 1 + m) = b.log2 - a.log2 - 1 - m by omega]
  unfold bitO
  generalize b / 2 ^ (b.log2 - a.log2 - 1 - m) = x
  rw [Int.tmod_eq_emod_of_nonneg (by omega), wrap64 (by omega) (by omega)]
  omega
theorem bitI_nat {b j : Nat} (hb : b < 2 ^ 64) (hj : j ≤ 64) : bitI (b : Int) (j : Int) = ((b / 2 ^ j % 2 : Nat) : Int) := by
  unfold bitI
  rw [shr_nat (by omega) (by omega), Int.toNat_natCast, Int.toNat_natCast]
  have hx : b / 2 ^ j < 2 ^ 64 := Nat.lt_of_le_of_lt (Nat.div_le_self _ _) hb
  generalize b / 2 ^ j = x at *
  have e1 : (BitVec.ofInt 64 (x : Int)).toNat = x := by rw [BitVec.toNat_ofInt]; omega
  have e2 : (BitVec.ofInt 64 (1 : Int)).toNat = 1 := by decide
  rw [BitVec.toNat_and, e1, e2, Nat.and_one_is_mod, wrapU (by omega) (by omega), wrap64 (by omega) (by omega)]
theorem setG_get (b : Int) (n : Nat) : ∀ (m j : Nat) (l : List Int), l.length = n → j + m = n → (setG b n m j l).length = n ∧ ∀ i, i < n → (setG b n m j l)[i]? = if i < m then some (bitI b ((n - 1 - i : Nat) : Int)) else l[i]? := by
  intro m
  induction m with
  | zero => intro j l hl _; exact ⟨hl, fun i _ => by simp [setG]⟩
  | succ m ih =>
    intro j l hl hj
    obtain ⟨g1, g2⟩ := ih (j + 1) (l.set (n - 1 - j) (bitI b j)) (by simpa using hl) (by omega)
    refine ⟨g1, fun i hi => ?_⟩
    rw [setG, g2 i hi]
    have hm : n - 1 - j = m := by omega
    rw [hm]
    rcases Nat.lt_trichotomy i m with h | h | h
    · rw [if_pos h, if_pos (by omega)]
    · subst h
      rw [if_neg (by omega), if_pos (by omega), List.getElem?_set_self (by omega), show j = n - 1 - i by omega]
    · rw [if_neg (by omega), if_neg (by omega), List.getElem?_set_ne (by omega)]
theorem setG_eq {b n : Nat} (hb : b < 2 ^ 64) (hn : n ≤ 64) : setG (b : Int) n n 0 (List.replicate n 0) = (List.range n).map fun m => ((b / 2 ^ (n - 1 - m) % 2 : Nat) : Int) := by
  obtain ⟨g1, g2⟩ := setG_get (b : Int) n n 0 (List.replicate n 0) (by simp) (by omega)
  apply List.ext_getElem?
  intro i
  rcases Nat.lt_or_ge i n with hi | hi
  · rw [g2 i hi, if_pos hi, List.getElem?_map, List.getElem?_range hi]
    show some _ = some _
    rw [bitI_nat hb (by omega)]
  · rw [List.getElem?_eq_none (by omega), List.getElem?_eq_none (by simp; omega)]
theorem path_run {h a b : Int} (h1 : IntKind.u64.has a) (h2 : IntKind.u64.has b) : (bif (bif !mayN h a then true else !mayN h b) then some (rli [] 1) else bif decide (1 ≤ b) then bif !isI a b then some (rli [] 4) else bif decide (1 ≤ b) then
      bif decide (((chainN b.toNat).length : Int) = (chainN b.toNat).length) && decide (((chainN b.toNat).length : Int) ≤ 64) && decide (0 ≤ a) then some (rli (accL a (chainN b.toNat) []) 0) else none else none else none) = some (rli (pathI h a b).1 (pathI h a b).2) := by
  obtain ⟨a0, a1, a2⟩ := hasU h1
  obtain ⟨b0, b1, b2⟩ := hasU h2
  unfold pathI bothI both mayN
  rw [chk_ne a0, chk_ne b0]
  cases ho : okN h.toNat a.toNat with
  | false => rfl
  | true =>
    cases hp : okN h.toNat b.toNat with
    | false => rfl
    | true =>
      have ha := (okN_iff.1 ho).2.2.1
      have hb := (okN_iff.1 hp).2.2.1
      rw [above_nat (by omega) (by omega) b1, decide_eq_true (show 1 ≤ b by omega)]
      unfold isI
      cases hv : abv a.toNat b.toNat with
      | false => rfl
      | true =>
        have hl := chain_small b1 (by omega)
        rw [len64 hl, decide_eq_true a0]
        have e1 := accL_chain (a := a.toNat) (b := b.toNat) (by omega) (by omega) hv
        have hlog : b.toNat.log2 < 64 := (Nat.log2_lt (by omega)).2 b1
        have hle := (abv_iff.1 hv).1
        have en : (pathN a b).toNat = b.toNat.log2 - a.toNat.log2 := by unfold pathN; rw [dep_nat (by omega), dep_nat (by omega)]; omega
        have e2 := setG_eq (b := b.toNat) (n := b.toNat.log2 - a.toNat.log2) b1 (by omega)
        rw [show ((a.toNat : Nat) : Int) = a by omega] at e1
        rw [show ((b.toNat : Nat) : Int) = b by omega] at e2
        rw [en, e1, e2]; rfl
theorem g338 : GoodS Try.prog N338 s311 := by
  refine good (.cons g374 (.cons g337 (.cons g370 (.nil _)))) H338 rfl (by kernel_rfl) Λ338 [(0, live338)] (oneLoop (p0 := loopK F338 0) (by kernel_rfl) loop338) [.v I, .v U, .v U] (by decide) [.sl true I] _ fun x r hw e => ?_
  obtain ⟨h, a, b⟩ := x
  cases e
  exact (r338 h a b).trans (path_run hw.2.1 hw.2.2)
end Go.AM.Seat
