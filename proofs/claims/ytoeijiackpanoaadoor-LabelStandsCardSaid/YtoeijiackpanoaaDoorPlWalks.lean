/- Plain laws of walks: in two goes as in one; a node's value out of that of the one above it. -/
import Derived.Test.YtoeijiackpanoaaDoorSeLW
set_option linter.unusedVariables false
set_option linter.unusedSimpArgs false
namespace Go.AM.Seat
open Go Go.AM Go.Proofs

/-- What a node's value is walked to by. -/
theorem nodeV_run {l : List Term.D} {h : Int} {m : Value.D} {n : Int} (hs : startE l m = 0) (hc : chkI h n = 0) (hp : (pathI h 1 n).2 = 0) : nodeV l h m n = endW (walkL (m, l, 0) (pathI h 1 n).1) := by
  obtain ⟨sym, b, t0, hd⟩ := den_of hs
  unfold nodeV noNode
  rw [hs, hc, hd.start, pathW_ok hp]; rfl
theorem noNode_start {l : List Term.D} {h : Int} {m : Value.D} {n : Int} (he : (nodeV l h m n).2.2 = 0) : startE l m = 0 ∧ chkI h n = 0 := by
  unfold nodeV at he
  cases hn : noNode l h m n with
  | true => rw [hn] at he; exact absurd (show (1 : Int) = 0 from he) (by decide)
  | false =>
    unfold noNode at hn
    cases h1 : startE l m != 0 with
    | true => rw [h1] at hn; cases hn
    | false => rw [h1] at hn; exact ⟨by simpa using h1, by simpa using hn⟩
theorem root_path {H n : Nat} (hk : okN H n = true) : pathI (H : Int) 1 (n : Int) = ((List.range n.log2).map fun m => ((n / 2 ^ (n.log2 - 1 - m) % 2 : Nat) : Int), 0) := by
  obtain ⟨o1, o2, o3, o4⟩ := okN_iff.1 hk
  have q1 : okN H 1 = true := okN_iff.2 ⟨o1, o2, Nat.le_refl 1, by have := Nat.one_lt_two_pow (n := H + 1) (by omega); omega⟩
  have q2 : abv 1 n = true := by
    refine abv_iff.2 ⟨by rw [show Nat.log2 1 = 0 by decide]; omega, ?_⟩
    rw [show Nat.log2 1 = 0 by decide, Nat.sub_zero]
    have m1 := log2_le (n := n) (by omega)
    have m2 := lt_log2 (n := n)
    rw [Nat.pow_succ] at m2
    exact Nat.div_eq_of_lt_le (by omega) (by omega)
  have := path_nat q1 hk q2
  rw [show Nat.log2 1 = 0 by decide, Nat.sub_zero] at this
  exact this
theorem okN_chk {h n : Int} (h1 : IntKind.u64.has n) (hc : chkI h n = 0) : okN h.toNat n.toNat = true ∧ ((h.toNat : Nat) : Int) = h ∧ ((n.toNat : Nat) : Int) = n := by
  obtain ⟨a0, a1, a2⟩ := hasU h1
  have := chk_nat (h := h) a0
  rw [hc] at this
  cases ho : okN h.toNat n.toNat with
  | false => rw [ho] at this; exact absurd this (by decide)
  | true =>
    have := (okN_iff.1 ho).1
    exact ⟨rfl, by omega, a2.symm⟩
/-- A side below. -/
theorem child_ok {h n i : Int} (h1 : IntKind.u64.has n) (hi : i = 0 ∨ i = 1) (he : (childI h n i).2 = 0) : chkI h n = 0 ∧ IntKind.u64.has (childI h n i).1 ∧ chkI h (childI h n i).1 = 0 ∧
    (pathI h 1 n).2 = 0 ∧ (pathI h 1 (childI h n i).1).2 = 0 ∧ (pathI h 1 (childI h n i).1).1 = (pathI h 1 n).1 ++ [i] := by
  have hodd : oddB i = false := by rcases hi with rfl | rfl <;> decide
  unfold childI at he ⊢
  rw [hodd] at he ⊢
  cases hc : chkI h n != 0 with
  | true => rw [hc] at he; exact absurd (show (1 : Int) = 0 from he) (by decide)
  | false =>
    rw [hc] at he
    simp only [cond_false] at he ⊢
    have hc0 : chkI h n = 0 := by simpa using hc
    obtain ⟨hk, hh, hn⟩ := okN_chk h1 hc0
    cases hd : depI n == h with
    | true => rw [hd] at he; exact absurd (show (4 : Int) = 0 from he) (by decide)
    | false =>
      simp only [cond_false]
      obtain ⟨H, hH⟩ : ∃ H, H = h.toNat := ⟨_, rfl⟩
      obtain ⟨a, ha⟩ : ∃ a, a = n.toNat := ⟨_, rfl⟩
      obtain ⟨s, hs1, hs2⟩ : ∃ s : Nat, s < 2 ∧ i = (s : Int) := by
        rcases hi with rfl | rfl
        · exact ⟨0, by omega, rfl⟩
        · exact ⟨1, by omega, rfl⟩
      rw [← hH] at hh hk
      rw [← ha] at hn hk
      obtain ⟨o1, o2, o3, o4⟩ := okN_iff.1 hk
      have hlog : a.log2 < H := by
        have h9 := (okN_log (h := H) (n := a) (by omega)).1 o4
        have hdep : depI n = (a.log2 : Int) := by rw [dep_nat (by omega), ← ha]
        have : ¬ depI n = h := by simpa using hd
        omega
      have hb : a < 2 ^ (H + 1 - 1) := by
        rw [Nat.add_sub_cancel]
        have := lt_log2 (n := a)
        exact Nat.lt_of_lt_of_le this (Nat.pow_le_pow_right (by decide) (by omega))
      rw [Nat.add_sub_cancel] at hb
      have hp := pow32 (h := H) o2
      have h32 : (2 : Nat) ^ 32 = 4294967296 := by decide
      have h64 : (2 : Nat) ^ 64 = 18446744073709551616 := by decide
      have hv : orU (shlI n 1) (IntKind.u64.wrap i) = ((2 * a + s : Nat) : Int) := by
        have e1 : shlI n 1 = ((a * 2 ^ 1 : Nat) : Int) := by rw [← hn]; exact shl_nat (a := a) (k := 1) (by decide) (by omega)
        rw [e1, hs2, wrapU (by omega) (by omega), or_nat (by omega) (by omega)]
        congr 1
        have : a * 2 ^ 1 ||| s = a * 2 ^ 1 + s := by
          rw [Nat.mul_comm]
          exact (Nat.two_pow_add_eq_or_of_lt (i := 1) (b := s) (by omega) a).symm
        rw [this]; omega
      rw [hv]
      have hc2 : (2 * a + s) / 2 = a := by omega
      have hm2 : (2 * a + s) % 2 = s := by omega
      have hck : okN H (2 * a + s) = true := okN_iff.2 ⟨o1, o2, by omega, by rw [Nat.pow_succ]; omega⟩
      have hlg : (2 * a + s).log2 = a.log2 + 1 := by
        have m1 := log2_le (n := a) (by omega)
        have m2 := lt_log2 (n := a)
        exact log2_eq (by rw [Nat.pow_succ]; omega) (by rw [Nat.pow_succ]; omega)
      have hu : IntKind.u64.has ((2 * a + s : Nat) : Int) := by
        have : IntKind.u64.max = 18446744073709551615 := by decide
        exact ⟨by show (0 : Int) ≤ _; omega, by rw [this]; omega⟩
      have p1 := root_path hk
      have p2 := root_path hck
      rw [hh] at p1 p2
      rw [hn] at p1
      refine ⟨hc0, hu, ?_, by rw [p1], by rw [p2], ?_⟩
      · rw [chk_nat (by omega), ← hH, Int.toNat_natCast, hck]; rfl
      · rw [p2, p1, hlg, List.range_succ, List.map_append, List.map_singleton]
        show (List.range a.log2).map _ ++ [_] = (List.range a.log2).map _ ++ [i]
        congr 1
        · refine List.map_congr_left fun q hq => ?_
          have hq' := List.mem_range.1 hq
          have e := div_div_pow (2 * a + s) 1 (a.log2 - 1 - q)
          rw [Nat.pow_one, hc2] at e
          rw [show a.log2 + 1 - 1 - q = 1 + (a.log2 - 1 - q) by omega, ← e]
        · rw [show a.log2 + 1 - 1 - a.log2 = 0 by omega, Nat.pow_zero, Nat.div_one, hm2, hs2]
theorem walkV_eq {l : List Term.D} {v : Value.D} {sd : List Int} (hs : startE l v = 0) (h1 : ∀ x ∈ sd, 0 ≤ x ∧ x ≤ 1) (h2 : sd.length ≤ 32) : walkV l v sd = endW (walkL (v, l, 0) sd) := by
  obtain ⟨sym, b, t0, hd⟩ := den_of hs
  unfold walkV noWalk
  rw [hs, decide_eq_false (show ¬ (sd.length : Int) > 32 by omega), odd_01 h1, hd.start]; rfl
theorem odd_bits {x : Int} (hx : IntKind.i64.has x) (h : oddB x = false) : 0 ≤ x ∧ x ≤ 1 := by
  unfold oddB at h
  obtain ⟨b, hb⟩ : ∃ b, b = BitVec.ofInt 64 x := ⟨_, rfl⟩
  rw [← hb] at h
  have h0 : (b &&& ~~~(BitVec.ofInt 64 1)).toNat = 0 := by
    have h1 : IntKind.i64.wrap ((b &&& ~~~(BitVec.ofInt 64 1)).toNat : Int) = 0 := by simpa using h
    obtain ⟨q, hq⟩ : ∃ q, q = (b &&& ~~~(BitVec.ofInt 64 1)).toNat := ⟨_, rfl⟩
    have h2 : q < 2 ^ 64 := by rw [hq]; exact (b &&& ~~~(BitVec.ofInt 64 1)).isLt
    rw [← hq] at h1 ⊢
    unfold IntKind.wrap at h1
    simp [IntKind.signed, IntKind.bits] at h1
    omega
  have h1 : b &&& ~~~(BitVec.ofInt 64 1) = 0#64 := BitVec.eq_of_toNat_eq (by rw [h0]; rfl)
  have h2 : b = (b &&& ~~~(BitVec.ofInt 64 1)) ||| (b &&& BitVec.ofInt 64 1) := by
    apply BitVec.eq_of_getLsbD_eq
    intro i hi
    simp only [BitVec.getLsbD_or, BitVec.getLsbD_and, BitVec.getLsbD_not, hi, decide_true, Bool.true_and]
    cases b.getLsbD i <;> cases (BitVec.ofInt 64 1).getLsbD i <;> rfl
  rw [h1] at h2
  have h3 : b.toNat = b.toNat % 2 := by
    have := congrArg BitVec.toNat h2
    rw [BitVec.toNat_or, BitVec.toNat_and, show (BitVec.ofInt 64 1).toNat = 1 by decide, Nat.and_one_is_mod] at this
    simpa using this
  have h4 : b.toNat = (x % 18446744073709551616).toNat := by rw [hb, BitVec.toNat_ofInt]; rfl
  have h5 : -9223372036854775808 ≤ x := hx.1
  have h6 : x ≤ 9223372036854775807 := hx.2
  have h7 : b.toNat % 2 < 2 := Nat.mod_lt _ (by decide)
  omega
theorem walkV_zero {l : List Term.D} {v : Value.D} {sd : List Int} (hx : ∀ x ∈ sd, IntKind.i64.has x) (he : (walkV l v sd).2.2 = 0) : startE l v = 0 ∧ sd.length ≤ 32 ∧ ∀ x ∈ sd, 0 ≤ x ∧ x ≤ 1 := by
  unfold walkV at he
  cases hn : noWalk l v sd with
  | true => rw [hn] at he; exact absurd (show (1 : Int) = 0 from he) (by decide)
  | false =>
    unfold noWalk at hn
    cases h1 : startE l v != 0 with
    | true => rw [h1] at hn; cases hn
    | false =>
      rw [h1] at hn
      simp only [cond_false] at hn
      cases h2 : decide ((sd.length : Int) > 32) with
      | true => rw [h2] at hn; cases hn
      | false =>
        rw [h2] at hn
        simp only [cond_false] at hn
        refine ⟨by simpa using h1, by simp at h2; omega, fun x hm => ?_⟩
        have := List.any_eq_false.1 hn x hm
        exact odd_bits (hx x hm) (by simpa using this)
/-- Two goes. -/
theorem two_goes {l : List Term.D} {v : Value.D} {a c : List Int} (hl : l.length + (a.length + c.length) ≤ 65536) (ha : ∀ x ∈ a, IntKind.i64.has x) (hc : ∀ x ∈ c, IntKind.i64.has x) (he : (walkV l v (a ++ c)).2.2 = 0) :
    (walkV l v a).2.2 = 0 ∧ (walkV l v a).2.1.length ≤ l.length + a.length ∧ walkV (walkV l v a).2.1 (walkV l v a).1 c = walkV l v (a ++ c) := by
  obtain ⟨h1, h2, h3⟩ := walkV_zero (fun x hx => (List.mem_append.1 hx).elim (ha x) (hc x)) he
  rw [List.length_append] at h2
  obtain ⟨sym, b, t0, hd⟩ := den_of h1
  obtain ⟨w, r, e1, e2, e3⟩ := hd.walkV (sd := a) (fun x hx => h3 x (by simp [hx])) (by omega) (by omega)
  rw [List.append_nil] at e3
  have f1 : walkV l v a = endW (walkL (v, l, 0) a) := walkV_eq h1 (fun x hx => h3 x (by simp [hx])) (by omega)
  have f2 : walkL (v, l, 0) a = (w, l ++ r, 0) := by
    have h9 := endW_err (x := walkL (v, l, 0) a) (by rw [← f1, e1])
    rw [← e1, f1]; exact h9.2.symm
  rw [e1]
  refine ⟨rfl, by rw [List.length_append]; omega, ?_⟩
  rw [walkV_eq e3.startE (fun x hx => h3 x (by simp [hx])) (by omega), walkV_eq h1 h3 (by rw [List.length_append]; omega), walkL_app, f2]
/-- A side of a node. -/
theorem side_true {l : List Term.D} {h n : Int} {m : Value.D} {i : Int} (hl : l.length ≤ 60) (h1 : IntKind.u64.has n) (hi : i = 0 ∨ i = 1) (he : (nodeV l h m n).2.2 = 0) :
    sideB l h n m (nodeV l h m n).2.1 (nodeV l h m n).1 i = true := by
  obtain ⟨n1, n2⟩ := noNode_start he
  obtain ⟨sym, b, t0, hd⟩ := den_of n1
  obtain ⟨hk, hh, hn⟩ := okN_chk h1 n2
  have hr := root_path hk
  rw [hh, hn] at hr
  have hlen : (pathI h 1 n).1.length ≤ 32 := by
    have := path_lenH h 1 n
    have := (okN_iff.1 hk).2.1
    omega
  obtain ⟨w, r, e1, e2, e3⟩ := hd.walk (pathI h 1 n).1 (path_02 h 1 n) (by omega)
  have f1 := nodeV_run n1 n2 (by rw [hr] : (pathI h 1 n).2 = 0)
  rw [e1] at f1
  have f1 : nodeV l h m n = (w, l ++ r, 0) := f1
  rw [f1]
  unfold sideB
  cases hc : (childI h n i).2 != 0 with
  | true => rfl
  | false =>
    obtain ⟨c1, c2, c3, c4, c5, c6⟩ := child_ok h1 hi (show (childI h n i).2 = 0 by simpa using hc)
    have g1 := nodeV_run n1 c3 c5
    rw [c6, walkL_app, e1] at g1
    have g2 : walkV (l ++ r) w [i] = endW (walkL (w, l ++ r, 0) [i]) := walkV_eq e3.startE (fun x hx => by rw [List.mem_singleton.1 hx]; rcases hi with rfl | rfl <;> decide) (by simp)
    obtain ⟨z, r', k1, k2, k3⟩ := e3.step (by rw [List.length_append]; omega) (i := i) (by rcases hi with rfl | rfl <;> decide) (by rcases hi with rfl | rfl <;> decide)
    have g3 : walkL (w, l ++ r, 0) [i] = (z, l ++ r ++ r', 0) := by
      show stepW (w, l ++ r, 0) i = _
      unfold stepW; rw [← k1]; rfl
    rw [g3] at g1 g2
    simp only [cond_false]
    rw [g1, g2, small_of (by omega), small_of (by rw [List.length_append]; omega)]
    unfold difW
    show (true && true && !(bif bif bif ((0 : Int) != 0) then true else ((0 : Int) != 0) then true else !valEq z z then true else !sameL (l ++ r ++ r') (l ++ r ++ r'))) = true
    rw [valEq_iff.2 rfl, show sameL (l ++ r ++ r') (l ++ r ++ r') = true from decide_eq_true rfl]; rfl
end Go.AM.Seat
