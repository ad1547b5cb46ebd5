/- Plain laws: ways are told apart by where they lead. -/
import Derived.Test.YtoeijiackpanoaaDoorSeLA
set_option linter.unusedVariables false
set_option linter.unusedSimpArgs false
namespace Go.AM.Seat
open Go Go.AM Go.Proofs

/-- Of an atom no two ways lead to one term. -/
theorem At.inj {l : List Term.D} {t0 : Nat} (h0 : ∃ x : Term.D, l[t0]? = some x ∧ x.1 = 1) : ∀ {p q : List Int} {t : Nat}, In02 p → In02 q → At l t0 p t → At l t0 q t → p = q := by
  obtain ⟨x0, e0, k0⟩ := h0
  intro p
  induction p with
  | nil =>
    intro q t _ hq h1 h2
    obtain ⟨rfl, _⟩ := h1
    cases q with
    | nil => rfl
    | cons i q =>
      obtain ⟨u, _, e⟩ := h2
      have := hq i (by simp)
      rw [e0, Option.some.injEq] at e
      rw [e] at k0
      have k0 : 2 + i = 1 := k0
      omega
  | cons i p ih =>
    intro q t hp hq h1 h2
    obtain ⟨u, a1, e1⟩ := h1
    cases q with
    | nil =>
      obtain ⟨rfl, _⟩ := h2
      have := hp i (by simp)
      rw [e0, Option.some.injEq] at e1
      rw [e1] at k0
      have k0 : 2 + i = 1 := k0
      omega
    | cons j q =>
      obtain ⟨v, a2, e2⟩ := h2
      rw [e1] at e2
      simp only [Option.some.injEq, Prod.mk.injEq, and_true] at e2
      obtain ⟨e3, e4⟩ := e2
      have e5 : u = v := by omega
      subst e5
      have e6 : i = j := by omega
      rw [e6, ih (fun x hx => hp x (by simp [hx])) (fun x hx => hq x (by simp [hx])) a1 a2]
theorem Den.inj {b : Block.D} {t0 : Nat} {l : List Term.D} {p q : List Int} {v : Value.D} (h0 : ∃ x : Term.D, l[t0]? = some x ∧ x.1 = 1) (h : Den true b t0 l p v) (h' : Den true b t0 l q v) : p = q := by
  obtain ⟨_, h2, t, e, ha⟩ := h
  obtain ⟨_, h2', t', e', ha'⟩ := h'
  have : t = t' := by
    rw [e] at e'
    have := congrArg (fun x : Value.D => x.2.2.2.2) e'
    exact Int.ofNat.inj this
  subst this
  exact At.inj h0 h2 h2' ha ha'
/-- Two values of one list are one just if their ways are. -/
theorem Den.apart {b : Block.D} {t0 : Nat} {l r : List Term.D} {p q : List Int} {v w : Value.D} (h0 : ∃ x : Term.D, l[t0]? = some x ∧ x.1 = 1) (h : Den true b t0 l p v) (h' : Den true b t0 (l ++ r) q w) : valEq v w = decide (p = q) := by
  have hm := h.mono h'.good
  apply bool_iff
  rw [valEq_iff, decide_eq_true_iff]
  constructor
  · rintro rfl
    refine Den.inj ?_ hm h'
    obtain ⟨x, e1, e2⟩ := h0
    exact ⟨x, by rw [List.getElem?_append_left (List.getElem?_eq_some_iff.1 e1).1]; exact e1, e2⟩
  · rintro rfl
    exact hm.uniq h'
/-- The bits of a number, below its greatest one. -/
def bitsN (n k : Nat) : List Int := (List.range k).map fun m => ((n / 2 ^ (k - 1 - m) % 2 : Nat) : Int)
theorem bits_inj : ∀ (k : Nat) {a c : Nat}, a / 2 ^ k = c / 2 ^ k → bitsN a k = bitsN c k → a = c := by
  intro k
  induction k with
  | zero => intro a c h _; simpa using h
  | succ k ih =>
    intro a c h hb
    unfold bitsN at hb
    rw [List.range_succ, List.map_append, List.map_append, List.map_singleton, List.map_singleton] at hb
    obtain ⟨h1, h2⟩ := List.append_inj hb (by simp)
    have e1 : a % 2 = c % 2 := by
      have := List.singleton_inj.1 h2
      rw [show k + 1 - 1 - k = 0 by omega, Nat.pow_zero, Nat.div_one, Nat.div_one] at this
      omega
    have e2 : a / 2 = c / 2 := by
      refine ih ?_ ?_
      · have p1 := div_div_pow a 1 k
        have p2 := div_div_pow c 1 k
        rw [Nat.pow_one] at p1 p2
        rw [p1, p2, Nat.add_comm 1 k]; exact h
      · unfold bitsN
        have conv : ∀ n : Nat, ((List.range k).map fun m => ((n / 2 ^ (k + 1 - 1 - m) % 2 : Nat) : Int)) = (List.range k).map fun m => ((n / 2 / 2 ^ (k - 1 - m) % 2 : Nat) : Int) := by
          intro n
          refine List.map_congr_left fun m hm => ?_
          have hm' := List.mem_range.1 hm
          have p1 := div_div_pow n 1 (k - 1 - m)
          rw [Nat.pow_one] at p1
          rw [p1, show k + 1 - 1 - m = 1 + (k - 1 - m) by omega]
        rw [← conv a, ← conv c]; exact h1
    omega
theorem root_inj {H a c : Nat} (ha : okN H a = true) (hc : okN H c = true) (h : (pathI (H : Int) 1 (a : Int)).1 = (pathI (H : Int) 1 (c : Int)).1) : a = c := by
  rw [root_path ha, root_path hc] at h
  have hl : a.log2 = c.log2 := by simpa using congrArg List.length h
  obtain ⟨_, _, a0, _⟩ := okN_iff.1 ha
  obtain ⟨_, _, c0, _⟩ := okN_iff.1 hc
  have one : ∀ n : Nat, 1 ≤ n → n / 2 ^ n.log2 = 1 := by
    intro n hn
    have m1 := log2_le (n := n) (by omega)
    have m2 := lt_log2 (n := n)
    rw [Nat.pow_succ] at m2
    exact Nat.div_eq_of_lt_le (by omega) (by omega)
  refine bits_inj a.log2 (by rw [one a a0, hl, one c c0]) ?_
  unfold bitsN
  rw [← hl] at h
  exact h
theorem below_inj {H i a c : Nat} (hi : okN H i = true) (ha : okN H a = true) (hc : okN H c = true) (va : abv i a = true) (vc : abv i c = true) (h : (pathI (H : Int) (i : Int) (a : Int)).1 = (pathI (H : Int) (i : Int) (c : Int)).1) : a = c := by
  rw [path_nat hi ha va, path_nat hi hc vc] at h
  obtain ⟨v1, v2⟩ := abv_iff.1 va
  obtain ⟨w1, w2⟩ := abv_iff.1 vc
  have hl : a.log2 - i.log2 = c.log2 - i.log2 := by simpa using congrArg List.length h
  refine bits_inj (a.log2 - i.log2) (by rw [v2, hl, w2]) ?_
  unfold bitsN
  rw [← hl] at h
  exact h
/-- A way over a two is cut there. -/
theorem cut_two : ∀ {a c x y : List Int}, (∀ i ∈ a, i ≤ 1) → (∀ i ∈ c, i ≤ 1) → a ++ 2 :: x = c ++ 2 :: y → a = c ∧ x = y := by
  intro a
  induction a with
  | nil =>
    intro c x y _ hc h
    cases c with
    | nil => exact ⟨rfl, by simpa using h⟩
    | cons j c =>
      simp only [List.nil_append, List.cons_append, List.cons.injEq] at h
      have := hc j (by simp)
      omega
  | cons i a ih =>
    intro c x y ha hc h
    cases c with
    | nil =>
      simp only [List.nil_append, List.cons_append, List.cons.injEq] at h
      have := ha i (by simp)
      omega
    | cons j c =>
      simp only [List.cons_append, List.cons.injEq] at h
      obtain ⟨h1, h2⟩ := ih (fun i hi => ha i (by simp [hi])) (fun i hi => hc i (by simp [hi])) h.2
      exact ⟨by rw [h.1, h1], h2⟩
theorem sub_ok {h : Int} {s : Subset.D} (h1 : IntKind.u64.has s.1) (h2 : IntKind.u64.has s.2) (hs : subE h s = 0) : okS h.toNat s.1.toNat s.2.toNat = true := by
  rw [subE_nat h1 h2] at hs
  cases ho : okS h.toNat s.1.toNat s.2.toNat with
  | true => rfl
  | false => rw [ho] at hs; cases hs
/-- No two subsets have one label's way. -/
theorem labP_inj0 {h s1 s2 u1 u2 : Int} (h1 : IntKind.u64.has s1) (h2 : IntKind.u64.has s2) (g1 : IntKind.u64.has u1) (g2 : IntKind.u64.has u2) (hs : subE h (s1, s2) = 0) (hu : subE h (u1, u2) = 0) (e : labP h (s1, s2) = labP h (u1, u2)) : s1 = u1 ∧ s2 = u2 := by
  obtain ⟨_, a1, a2⟩ := hasU h1
  obtain ⟨_, b1, b2⟩ := hasU h2
  obtain ⟨_, c1, c2⟩ := hasU g1
  obtain ⟨_, d1, d2⟩ := hasU g2
  obtain ⟨k1, k2⟩ := okS_iff.1 (sub_ok (s := (s1, s2)) h1 h2 hs)
  obtain ⟨j1, j2⟩ := okS_iff.1 (sub_ok (s := (u1, u2)) g1 g2 hu)
  have hh : ((h.toNat : Nat) : Int) = h := by have := (okN_iff.1 k1).1; omega
  unfold labP at e
  rw [List.append_assoc, List.append_assoc] at e
  obtain ⟨e1, e2⟩ := cut_two (fun i hi => (path_01 h 1 s1 i hi).2) (fun i hi => (path_01 h 1 u1 i hi).2) e
  simp only at e1 e2 k1 k2 j1 j2
  have eI : s1.toNat = u1.toNat := root_inj k1 j1 (by rw [hh, ← a2, ← c2]; exact e1)
  have eI' : s1 = u1 := by omega
  subst eI'
  have len : ∀ {j : Nat}, okN h.toNat j = true → abv s1.toNat j = true → s1.toNat ≠ j → (pathI h s1 (j : Int)).1 ≠ [] := by
    intro j o1 o2 o3
    have := path_nat k1 o1 o2
    rw [hh, ← a2] at this
    rw [this]
    obtain ⟨v1, v2⟩ := abv_iff.1 o2
    have hlt : s1.toNat.log2 < j.log2 := by
      rcases Nat.lt_or_ge s1.toNat.log2 j.log2 with h' | h'
      · exact h'
      · rw [show j.log2 - s1.toNat.log2 = 0 by omega, Nat.pow_zero, Nat.div_one] at v2
        exact absurd v2.symm o3
    intro e
    have := congrArg List.length e
    simp at this
    omega
  have eJ : s2 = u2 := by
    cases hs2 : s2 != 0 with
    | false =>
      have z1 : s2 = 0 := by simpa using hs2
      cases hu2 : u2 != 0 with
      | false => rw [z1]; have : u2 = 0 := by simpa using hu2
                 rw [this]
      | true =>
        rw [hs2, hu2] at e2
        have n2 : u2 ≠ 0 := by simpa using hu2
        obtain ⟨o1, o2, o3⟩ := j2.resolve_left (fun z => by omega)
        exact absurd (by rw [← d2]; exact e2.symm) (len o1 o2 o3)
    | true =>
      have n1 : s2 ≠ 0 := by simpa using hs2
      obtain ⟨o1, o2, o3⟩ := k2.resolve_left (fun z => by omega)
      cases hu2 : u2 != 0 with
      | false =>
        rw [hs2, hu2] at e2
        exact absurd (by rw [← b2]; exact e2) (len o1 o2 o3)
      | true =>
        have n2 : u2 ≠ 0 := by simpa using hu2
        obtain ⟨q1, q2, q3⟩ := j2.resolve_left (fun z => by omega)
        rw [hs2, hu2] at e2
        have := below_inj k1 o1 q1 o2 q2 (by rw [hh, ← a2, ← b2, ← d2]; exact e2)
        omega
  exact ⟨rfl, eJ⟩
theorem labP_inj {h : Int} {s u : Subset.D} (h1 : IntKind.u64.has s.1) (h2 : IntKind.u64.has s.2) (g1 : IntKind.u64.has u.1) (g2 : IntKind.u64.has u.2) (hs : subE h s = 0) (hu : subE h u = 0) (e : labP h s = labP h u) : s = u := by
  obtain ⟨e1, e2⟩ := labP_inj0 (s1 := s.1) (s2 := s.2) (u1 := u.1) (u2 := u.2) h1 h2 g1 g2 hs hu e
  exact Prod.ext e1 e2
end Go.AM.Seat
