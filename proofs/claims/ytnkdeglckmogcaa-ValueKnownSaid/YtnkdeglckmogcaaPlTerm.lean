/- Terms and values: plain laws. -/
import Derived.Test.YtnkdeglckmogcaaPlT
import Derived.Test.YtnkdeglckmogcaaSe6
set_option linter.unusedVariables false
namespace Go.AM.Seat
open Go Go.AM Go.Proofs

theorem plain_sym {l : List Term.D} {v : Value.D} (h : checkV l v = 0) (hs : v.1 = true) : v = symV v.2.2.2.2 ∧ 0 ≤ v.2.2.2.2 ∧ v.2.2.2.2 < l.length := by
  obtain ⟨s1, s2⟩ := sym_of h hs
  have h2 := (checkV_zero.1 h).2
  have hi : isSym l v = true := by
    unfold isSym
    rw [hs, decide_eq_true s1, decide_eq_true s2]; rfl
  unfold plainV at h2
  rw [hi] at h2
  exact ⟨h2, s1, s2⟩
theorem plain_oct {l : List Term.D} {v : Value.D} (h : checkV l v = 0) (hs : v.1 = false) : (v.2.1 = true ∧ v = sealV v.2.2.2.1) ∨ (v.2.1 = false ∧ v = octV v.2.2.1) := by
  have h2 := (checkV_zero.1 h).2
  have hi : isSym l v = false := by unfold isSym; rw [hs]; rfl
  unfold plainV at h2
  rw [hi] at h2
  cases hb : v.2.1 with
  | true => rw [hb] at h2; exact .inl ⟨rfl, h2⟩
  | false => rw [hb] at h2; exact .inr ⟨rfl, h2⟩
theorem madeV_len (l : List Term.D) (t : Term.D) : (madeV l t).2.1.length ≤ l.length + 1 := by
  unfold madeV
  cases (makeL l t).2.2 != 0
  · exact makeL_len l t
  · simp
theorem check_sym {l : List Term.D} {i : Int} (h : GoodL l) (h0 : 0 ≤ i) (h1 : i < l.length) : checkV l (symV i) = 0 := by
  refine checkV_zero.2 ⟨checkL_iff.2 h, ?_⟩
  have : isSym l (symV i) = true := by unfold isSym symV; simp [h0, h1]
  unfold plainV
  rw [this]; rfl
theorem check_seal {l : List Term.D} (h : GoodL l) (s : Sealed.D) : checkV l (sealV s) = 0 := checkV_zero.2 ⟨checkL_iff.2 h, rfl⟩
theorem check_oct {l : List Term.D} (h : GoodL l) (b : Block.D) : checkV l (octV b) = 0 := checkV_zero.2 ⟨checkL_iff.2 h, rfl⟩
theorem madeV_cases (l : List Term.D) (t : Term.D) : ((madeV l t).2.2 ≠ 0 ∧ madeV l t = (zeroV, [], (madeV l t).2.2)) ∨ ((makeL l t).2.2 = 0 ∧ madeV l t = (symV (makeL l t).1, (makeL l t).2.1, 0)) := by
  unfold madeV
  cases h : (makeL l t).2.2 != 0 with
  | true => exact .inl ⟨by simpa using h, rfl⟩
  | false => exact .inr ⟨by simpa using h, rfl⟩

/-- What is made is an extension of what was there. -/
theorem madeV_ok {l : List Term.D} {t : Term.D} (h : (madeV l t).2.2 = 0) : ∃ (i : Nat) (r : List Term.D), madeV l t = (symV i, l ++ r, 0) ∧ GoodL l ∧ GoodL (l ++ r) ∧ (l ++ r)[i]? = some t ∧ mayB t l.length = true := by
  rcases madeV_cases l t with ⟨h1, _⟩ | ⟨h1, h2⟩
  · exact absurd h h1
  · obtain ⟨g1, g2, i, g3, g4, g5, g6⟩ := makeL_ok h1
    rw [h2, g3]
    rcases g6 with ⟨_, e⟩ | ⟨_, _, _, e⟩
    · rw [e] at g4 g5 ⊢
      exact ⟨i, [], by simp, g1, by simpa using g4, by simpa using g5, g2⟩
    · rw [e] at g4 g5 ⊢
      exact ⟨i, [t], rfl, g1, g4, g5, g2⟩


theorem madeV_may {l : List Term.D} {t : Term.D} (h : GoodL l) (hm : mayB t l.length = true) (hl : l.length < 65536) : (madeV l t).2.2 = 0 := by
  unfold madeV; rw [makeL_may h hm hl]; rfl
theorem partBad_false {l : List Term.D} {v : Value.D} {i : Int} : partBad l v i = false ↔ checkV l v = 0 ∧ ownV l v = false ∧ 0 ≤ i ∧ i ≤ 2 := by
  unfold partBad
  cases h : isV l [false] [v] != 0 with
  | true =>
    have : ¬ isV l [false] [v] = 0 := by simpa using h
    rw [isV_one] at this
    simp only [cond_true]
    exact ⟨fun h => (by cases h), fun h => absurd ⟨h.1, h.2.1⟩ this⟩
  | false =>
    have : isV l [false] [v] = 0 := by simpa using h
    obtain ⟨h1, h2⟩ := isV_one.1 this
    simp only [cond_false, h1, h2]
    cases h3 : decide (i < 0) <;> simp at h3 <;> simp <;> omega
/-- The parts of what may be, and is not sealed, are made. -/
theorem partV_may {l : List Term.D} {v : Value.D} {i : Int} (hl : l.length < 65536) (hc : checkV l v = 0) (ho : ownV l v = false) (h0 : 0 ≤ i) (h2 : i ≤ 2) : (partV l v i).2.2 = 0 := by
  unfold partV
  rw [partBad_false.2 ⟨hc, ho, h0, h2⟩]
  have hG := checkL_iff.1 (checkV_zero.1 hc).1
  cases hv : v.1 with
  | true =>
    obtain ⟨_, s1, s2⟩ := plain_sym hc hv
    simp only [cond_false, cond_true]
    rw [wrap64 (by omega) (by omega)]
    exact madeV_may hG (mayB_part (by omega) s1 s2) hl
  | false =>
    simp only [cond_false]
    unfold partR
    rw [decide_eq_false (by omega), decide_eq_false (by omega)]
    rfl
end Go.AM.Seat
