/- Terms, by definition: plain laws. -/
import Derived.Test.YtnkdeglckmogcaaPlT
import Derived.Test.YtnkdeglckmogcaaSeT9
set_option linter.unusedVariables false
namespace Go.AM.Seat
open Go Go.AM Go.Proofs

theorem bool_iff {a b : Bool} (h : a = true ↔ b = true) : a = b := by
  cases a <;> cases b <;> simp at h <;> rfl
theorem cond_iff {a b c : Bool} : (bif a then b else c) = true ↔ (a = true ∧ b = true) ∨ (a = false ∧ c = true) := by cases a <;> simp
theorem out5 (k : Int) (h1 : ¬ k = 1) (h2 : ¬ k = 2) (h3 : ¬ k = 3) (h4 : ¬ k = 4) (h5 : ¬ k = 5) (h : ¬ k < 1) : k > 5 := by omega
theorem mayR_eq (t : Term.D) (i : Int) : mayR t i = mayB t i := by
  obtain ⟨k, a, b⟩ := t
  have lt : ∀ a b : Int, decide (a < b) = !decide (b ≤ a) := fun a b => by
    by_cases h : a < b
    · rw [decide_eq_true h, decide_eq_false (by omega)]; rfl
    · rw [decide_eq_false h, decide_eq_true (by omega)]; rfl
  by_cases h1 : k = 1
  · subst h1
    simp only [mayR, mayB, mayBad, a90, ge_iff_le, bne]
    cases decide (0 ≤ a) <;> cases decide (a ≤ 1048576) <;> cases (b == 0) <;> rfl
  by_cases h2 : k = 2
  · subst h2
    have ep : partsL (2, a, b) = [a] := rfl
    simp only [mayR, mayB, mayBad, b90, ep, List.any, badP, ge_iff_le, lt, bne]
    cases decide (0 ≤ a) <;> cases decide (i ≤ a) <;> cases (b == 0) <;> rfl
  by_cases h3 : k = 3
  · subst h3
    have ep : partsL (3, a, b) = [a] := rfl
    simp only [mayR, mayB, mayBad, b90, ep, List.any, badP, ge_iff_le, lt, bne]
    cases decide (0 ≤ a) <;> cases decide (i ≤ a) <;> cases (b == 0) <;> rfl
  by_cases h4 : k = 4
  · subst h4
    have ep : partsL (4, a, b) = [a] := rfl
    simp only [mayR, mayB, mayBad, b90, ep, List.any, badP, ge_iff_le, lt, bne]
    cases decide (0 ≤ a) <;> cases decide (i ≤ a) <;> cases (b == 0) <;> rfl
  by_cases h5 : k = 5
  · subst h5
    have ep : partsL (5, a, b) = [a, b] := rfl
    simp only [mayR, mayB, mayBad, c90, ep, List.any, badP, ge_iff_le, lt, bne]
    cases decide (0 ≤ a) <;> cases decide (i ≤ a) <;> cases decide (0 ≤ b) <;> cases decide (i ≤ b) <;> rfl
  · have e1 : (k == 1) = false := by simpa using h1
    have e2 : (k == 2) = false := by simpa using h2
    have e3 : (k == 3) = false := by simpa using h3
    have e4 : (k == 4) = false := by simpa using h4
    have e5 : (k == 5) = false := by simpa using h5
    have hk : (bif decide (k < 1) then true else decide (k > 5)) = true := by
      rw [cond_iff]
      by_cases h : k < 1
      · exact .inl ⟨decide_eq_true h, rfl⟩
      · exact .inr ⟨decide_eq_false h, decide_eq_true (out5 k h1 h2 h3 h4 h5 h)⟩
    simp only [mayR, mayB, mayBad, e1, e2, e3, e4, e5, hk, cond_false, cond_true]
theorem eqT_comm (a b : Term.D) : eqD Term a b = eqD Term b a := bool_iff (by rw [eqT, eqT]; exact eq_comm)
/-- Where a term is, by definition. -/
theorem plGo_mem {t : Term.D} : ∀ {l : List Term.D} {i : Int}, 0 ≤ i → (0 ≤ plGo t l i ↔ t ∈ l) := by
  intro l
  induction l with
  | nil => intro i _; simp [plGo]
  | cons x xs ih =>
    intro i hi
    simp only [plGo]
    cases h : eqD Term x t with
    | true => simp [eqT.1 h, hi]
    | false =>
      have := eqT_false.1 h
      simp only [cond_false, ih (Int.le_add_one hi), List.mem_cons]
      exact ⟨fun h => .inr h, fun h => h.resolve_left (fun e => this e.symm)⟩
theorem plGo_ents {t : Term.D} : ∀ {l : List Term.D} {i : Int}, t ∈ l → mgetD t (entsFrom l i) = plGo t l i := by
  intro l
  induction l with
  | nil => intro i h; cases h
  | cons x xs ih =>
    intro i h
    simp only [entsFrom, plGo, mgetD, mget]
    rw [eqT_comm]
    cases hq : eqD Term x t with
    | true => rfl
    | false =>
      have := eqT_false.1 hq
      have := ih (i := i + 1) ((List.mem_cons.1 h).resolve_left (fun e => this e.symm))
      unfold mgetD at this
      simpa using this
theorem ckGo_iff (l : List Term.D) : ∀ (r : List Term.D) (p : List Term.D), l = p ++ r → (ckGo l r p.length = true ↔ ∀ (j : Nat) (t : Term.D), r[j]? = some t → mayB t ((p.length : Int) + j) = true ∧ t ∉ p ++ r.take j) := by
  intro r
  induction r with
  | nil => intro p _; simp [ckGo]
  | cons a r ih =>
    intro p hl
    simp only [ckGo]
    have e1 : (p.length : Int) + 1 = ((p ++ [a]).length : Nat) := by simp
    have ht : l.take ((p.length : Int).toNat) = p := by rw [hl]; simp
    have hb : ckBad l a p.length = false ↔ mayB a p.length = true ∧ a ∉ p := by
      unfold ckBad
      rw [ht, mayR_eq]
      cases mayB a p.length with
      | false => simp
      | true =>
        have := plGo_mem (t := a) (l := p) (i := 0) (by omega)
        simp [← this]
    cases hc : ckBad l a p.length with
    | true =>
      simp only [cond_true]
      refine ⟨fun h => (by cases h), fun h => ?_⟩
      have := h 0 a rfl
      have : ckBad l a p.length = false := hb.2 ⟨by simpa using this.1, by simpa using this.2⟩
      rw [this] at hc; cases hc
    | false =>
      simp only [cond_false]
      obtain ⟨g1, g2⟩ := hb.1 hc
      rw [e1, ih (p ++ [a]) (by simp [hl])]
      refine ⟨fun h j t hj => ?_, fun h j t hj => ?_⟩
      · cases j with
        | zero =>
          simp only [List.getElem?_cons_zero, Option.some.injEq] at hj
          subst hj
          simpa [g1] using g2
        | succ j =>
          have := h j t (by simpa using hj)
          refine ⟨?_, by simpa using this.2⟩
          have h3 := this.1
          rw [← e1] at h3
          rw [← h3]; congr 1; omega
      · have := h (j + 1) t (by simpa using hj)
        refine ⟨?_, by simpa using this.2⟩
        have h3 := this.1
        rw [← e1, ← h3]; congr 1; omega
theorem checkR_eq (l : List Term.D) : checkR l = checkL l := by
  have key : checkR l = 0 ↔ GoodL l := by
    unfold checkR
    cases h : decide ((l.length : Int) > 65536) with
    | true =>
      refine ⟨fun h => (by simp at h), fun h' => ?_⟩
      have := h'.1
      simp at h; omega
    | false =>
      simp only [cond_false]
      have := ckGo_iff l l [] rfl
      simp only [List.length_nil, List.nil_append] at this
      have e : (((0 : Nat) : Int)) = 0 := rfl
      rw [e] at this
      cases hc : ckGo l l 0 with
      | true =>
        rw [hc] at this
        refine ⟨fun _ => ⟨by simp at h; omega, fun j t hj => ?_⟩, fun _ => rfl⟩
        simpa using this.1 rfl j t hj
      | false =>
        rw [hc] at this
        refine ⟨fun h => (by simp at h), fun h' => ?_⟩
        have := this.2 (fun j t hj => by simpa using h'.2 j t hj)
        cases this
  have h1 : checkR l = 0 ∨ checkR l = 1 := by
    unfold checkR
    cases decide ((l.length : Int) > 65536) <;> cases ckGo l l 0 <;> simp
  rcases checkL_cases l with ⟨h2, _⟩ | ⟨h2, _⟩
  · rw [h2]; exact key.2 (checkL_iff.1 h2)
  · rw [h2]
    refine h1.resolve_left fun h => ?_
    have := checkL_iff.2 (key.1 h)
    omega
theorem findR_eq (l : List Term.D) (t : Term.D) : findR l t = findL l t := by
  have hb : findRBad l t = findBad l t := by
    unfold findRBad findBad
    rw [checkR_eq, mayR_eq]
    rcases checkL_cases l with ⟨h1, h2⟩ | ⟨h1, h2⟩ <;> rw [h1, h2] <;> rfl
  unfold findR findL
  rw [hb]
  cases hq : findBad l t with
  | true => rfl
  | false =>
    have hg : GoodL l := by
      unfold findBad at hq
      cases h : (ixL l).1 with
      | true => exact ixL_iff.1 h
      | false => rw [h] at hq; cases hq
    simp only [cond_false, ixEnts_eq hg]
    have h1 := plGo_mem (t := t) (l := l) (i := 0) (Int.le_refl 0)
    have h2 := mhas_ents (t := t) (l := l) (i := 0)
    by_cases hm : t ∈ l
    · have e1 : decide (plGo t l 0 < 0) = false := decide_eq_false (Int.not_lt.2 (h1.2 hm))
      rw [e1, h2.2 hm, plGo_ents hm]; rfl
    · have e1 : decide (plGo t l 0 < 0) = true := decide_eq_true (Int.not_le.1 fun h => hm (h1.1 h))
      have e2 : mhas t (entsFrom l 0) = false := by
        cases h : mhas t (entsFrom l 0) with
        | false => rfl
        | true => exact absurd (h2.1 h) hm
      rw [e1, e2]; rfl
theorem makeR_eq (l : List Term.D) (t : Term.D) : makeR l t = makeL l t := by
  unfold makeR makeL
  rw [← findR_eq]
  rcases findR_cases l t with h | ⟨_, h | h⟩ <;> rw [h] <;> rfl
end Go.AM.Seat
