/- Plain laws: the definition's answers are the program's: terms made, values. -/
import Derived.Test.YtnkdeglckmogcaaPlRef
set_option linter.unusedVariables false
namespace Go.AM.Seat
open Go Go.AM Go.Proofs

theorem findR_eq (l : List Term.D) (t : Term.D) : findR l t = findL l t := by
  have hb : findRBad l t = findBad l t := by
    unfold findRBad findBad
    rw [checkR_eq, mayR_eq]
    rcases checkL_cases l with ⟨h1, h2⟩ | ⟨h1, h2⟩ <;> rw [h1, h2] <;> rfl
  unfold findR findL
  rw [hb]
  cases hq : findBad l t with
  | true => rfl
  | false =>
    have hg : GoodL l := by
      unfold findBad at hq
      cases h : (ixL l).1 with
      | true => exact ixL_iff.1 h
      | false => rw [h] at hq; cases hq
    simp only [cond_false, ixEnts_eq hg]
    have h1 := plGo_mem (t := t) (l := l) (i := 0) (Int.le_refl 0)
    have h2 := mhas_ents (t := t) (l := l) (i := 0)
    by_cases hm : t ∈ l
    · have e1 : decide (plGo t l 0 < 0) = false := decide_eq_false (Int.not_lt.2 (h1.2 hm))
      rw [e1, h2.2 hm, plGo_ents hm]; rfl
    · have e1 : decide (plGo t l 0 < 0) = true := decide_eq_true (Int.not_le.1 fun h => hm (h1.1 h))
      have e2 : mhas t (entsFrom l 0) = false := by
        cases h : mhas t (entsFrom l 0) with
        | false => rfl
        | true => exact absurd (h2.1 h) hm
      rw [e1, e2]; rfl
theorem makeR_eq (l : List Term.D) (t : Term.D) : makeR l t = makeL l t := by
  unfold makeR makeL
  rw [← findR_eq]
  rcases findR_cases l t with h | ⟨_, h | h⟩ <;> rw [h] <;> rfl
theorem madeR_eq (l : List Term.D) (t : Term.D) : madeR l t = madeV l t := by
  unfold madeR madeV; rw [makeR_eq]
theorem mayV_eq (l : List Term.D) (v : Value.D) : mayV l v = valEq v (plainV l v) := by
  apply bool_iff
  rw [valEq_iff]
  unfold plainV isSym mayV
  obtain ⟨s, z, b, x, i⟩ := v
  cases s with
  | true =>
    simp only [cond_true]
    cases h1 : decide (i ≥ 0) <;> cases h2 : decide (i < (l.length : Int)) <;> simp only [cond_true, cond_false] <;> rw [cond_iff] <;> simp only [cond_iff, valEq_iff]
    all_goals
      first
      | (cases z <;> simp [sealV, octV, symV])
      | simp [symV]
  | false =>
    simp only [cond_false]
    cases z <;> simp only [cond_true, cond_false, valEq_iff]
theorem checkVR_eq (l : List Term.D) (v : Value.D) : checkVR l v = checkV l v := by
  unfold checkVR checkV
  rw [checkR_eq, mayV_eq]
  rcases checkL_cases l with ⟨h1, _⟩ | ⟨h1, _⟩ <;> rw [h1] <;> cases valEq v (plainV l v) <;> rfl
theorem check_may {l : List Term.D} {v : Value.D} : checkV l v = 0 ↔ checkR l = 0 ∧ mayV l v = true := by
  rw [← checkVR_eq, checkVR_zero]
theorem atomR_eq (l : List Term.D) (s : Bool) (n : Int) (b : Block.D) : atomR l s n b = atomV l s n b := by
  unfold atomR atomV
  rw [madeR_eq, checkR_eq]
  rcases checkL_cases l with ⟨h1, _⟩ | ⟨h1, _⟩ <;> rw [h1]
  cases s <;> rfl
theorem partRBad_eq (l : List Term.D) (v : Value.D) (i : Int) : partRBad l v i = partBad l v i := by
  have h := isV_one (l := l) (a := false) (v := v)
  unfold partRBad partBad
  rw [checkVR_eq]
  by_cases h1 : isV l [false] [v] = 0
  · obtain ⟨g1, g2⟩ := h.1 h1
    rw [h1, g1, g2]; rfl
  · have e : (isV l [false] [v] != 0) = true := by simpa using h1
    rw [e]
    cases hc : checkV l v != 0 with
    | true => rfl
    | false =>
      cases ho : ownV l v with
      | true => rfl
      | false => exact absurd (h.2 ⟨by simpa using hc, ho⟩) h1
theorem partVR_eq (l : List Term.D) (v : Value.D) (i : Int) : partVR l v i = partV l v i := by
  unfold partVR partV
  rw [partRBad_eq, madeR_eq]
  cases h : partBad l v i with
  | true => rfl
  | false =>
    obtain ⟨_, _, h0, h2⟩ := partBad_false.1 h
    have : (partR v.2.2.1 i).2 = 0 := by
      unfold partR
      rw [decide_eq_false (Int.not_lt.2 h0), decide_eq_false (show ¬ i > 4 from Int.not_lt.2 (Int.le_trans h2 (by decide)))]; rfl
    rw [this]
theorem two_iff {l : List Term.D} {k v : Value.D} : twoR l k v = true ↔ checkV l k = 0 ∧ checkV l v = 0 ∧ v.1 = k.1 := by
  rw [twoR_iff, check_may, check_may]
  exact ⟨fun ⟨a, b, c, d⟩ => ⟨⟨a, b⟩, ⟨a, c⟩, d.symm⟩, fun ⟨⟨a, b⟩, ⟨_, c⟩, d⟩ => ⟨a, b, c, d.symm⟩⟩
theorem wrapVR_eq (l : List Term.D) (k v : Value.D) : wrapVR l k v = wrapV l k v := by
  have h := isV_two (l := l) (a := false) (b := false) (v := k) (w := v)
  unfold wrapVR wrapV
  rw [madeR_eq]
  have hb : wrapRBad l k v = (isV l [false, false] [k, v] != 0) := by
    unfold wrapRBad
    by_cases h1 : isV l [false, false] [k, v] = 0
    · obtain ⟨g1, g2, g3, g4, g5⟩ := h.1 h1
      rw [h1, two_iff.2 ⟨g1, g2, g5⟩, g3, g4]; rfl
    · have e : (isV l [false, false] [k, v] != 0) = true := by simpa using h1
      rw [e]
      cases ht : twoR l k v with
      | false => rfl
      | true =>
        obtain ⟨g1, g2, g5⟩ := two_iff.1 ht
        cases h3 : ownV l k with
        | true => rfl
        | false =>
          cases h4 : ownV l v with
          | true => rfl
          | false => exact absurd (h.2 ⟨g1, g2, h3, h4, g5⟩) h1
  rw [hb]
  rcases isV_two_one l false false k v with h1 | h1 <;> rw [h1]
  rfl
theorem unwrapR_err (k : Block.D) (s : Sealed.D) : ((unwrapR k s).2 = 7 ∧ (unwrapR k s).1 = (0, 0)) ∨ (unwrapR k s).2 = 0 := by
  unfold unwrapR
  cases sealedEq (wrapB k (openB k s)) s
  · exact .inl ⟨rfl, rfl⟩
  · exact .inr rfl
theorem unwrapVR_eq (l : List Term.D) (k w : Value.D) : unwrapVR l k w = unwrapV l k w := by
  have h := isV_two (l := l) (a := false) (b := true) (v := k) (w := w)
  unfold unwrapVR unwrapV
  have hb : unwrapRBad l k w = (isV l [false, true] [k, w] != 0) := by
    unfold unwrapRBad
    by_cases h1 : isV l [false, true] [k, w] = 0
    · obtain ⟨g1, g2, g3, g4, g5⟩ := h.1 h1
      rw [h1, two_iff.2 ⟨g1, g2, g5⟩, g3, g4]; rfl
    · have e : (isV l [false, true] [k, w] != 0) = true := by simpa using h1
      rw [e]
      cases ht : twoR l k w with
      | false => rfl
      | true =>
        obtain ⟨g1, g2, g5⟩ := two_iff.1 ht
        cases h3 : ownV l k with
        | true => rfl
        | false =>
          cases h4 : ownV l w with
          | false => rfl
          | true => exact absurd (h.2 ⟨g1, g2, h3, h4, g5⟩) h1
  rw [hb]
  rcases isV_two_one l false true k w with h1 | h1 <;> rw [h1]
  · cases hk : k.1 with
    | true => rfl
    | false =>
      rcases unwrapR_err k.2.2.1 w.2.2.2.1 with ⟨e1, e2⟩ | e1
      · simp only [e1, e2]; rfl
      · simp only [e1]; rfl
  · rfl

/-! ### seal.Unwrap, by definition -/
theorem blockEq_iff {a b : Block.D} : blockEq a b = true ↔ a = b := by
  obtain ⟨a1, a2⟩ := a
  obtain ⟨b1, b2⟩ := b
  simp [blockEq]
theorem unwrapRR_eq (k : Block.D) {s : Sealed.D} (h : WF Sealed s) : unwrapRR k s = unwrapR k s := by
  have e : blockEq s.2 (tagB k s.1) = sealedEq (wrapB k (openB k s)) s := by
    apply bool_iff
    rw [blockEq_iff, sealedEq_iff]
    unfold wrapB openB
    rw [xorB_back h.1]
    constructor
    · intro e; rw [← e]
    · intro e; rw [← e]
  unfold unwrapRR unwrapR
  rw [e]
theorem g58 : GoodS Try.prog N58 s48 := by
  refine good (.cons g55 (.cons g93 (.cons g95 (.nil _)))) H58 rfl (by kernel_rfl) noL [] (noLoops (by kernel_rfl)) [.v Block, .v Sealed] (by decide) [] _ fun x r hw h => ?_
  cases h
  refine (r58 x.1 x.2).trans ?_
  rw [← unwrapRR_eq x.1 hw.2]
  unfold unwrapRR
  cases blockEq x.2.2 (tagB x.1 x.2.1) <;> rfl
end Go.AM.Seat
