/- Plain laws: values of one kind, and of the other. -/
import Derived.Test.YtnkdeglckmogcaaPlValue
import Derived.Test.YtnkdeglckmogcaaSe8
set_option linter.unusedVariables false
namespace Go.AM.Seat
open Go Go.AM Go.Proofs

theorem isV_ne {l : List Term.D} {a b : Bool} {v w : Value.D} (h : ¬ isV l [a, b] [v, w] = 0) : isV l [a, b] [v, w] = 1 := (isV_two_one l a b v w).resolve_left h
theorem wrapV_ne {l : List Term.D} {a b : Value.D} (h : ¬ isV l [false, false] [a, b] = 0) : (wrapV l a b).2.2 = 1 := by
  unfold wrapV; rw [isV_ne h]; rfl
theorem unwrapV_ne {l : List Term.D} {a b : Value.D} (h : ¬ isV l [false, true] [a, b] = 0) : (unwrapV l a b).2 = 1 := by
  unfold unwrapV; rw [isV_ne h]; rfl
theorem madeV_may {l : List Term.D} {t : Term.D} (h : GoodL l) (hm : mayB t l.length = true) (hl : l.length < 65536) : (madeV l t).2.2 = 0 := by
  unfold madeV; rw [makeL_may h hm hl]; rfl
theorem partBad_false {l : List Term.D} {v : Value.D} {i : Int} : partBad l v i = false ↔ checkV l v = 0 ∧ ownV l v = false ∧ 0 ≤ i ∧ i ≤ 2 := by
  unfold partBad
  cases h : isV l [false] [v] != 0 with
  | true =>
    have : ¬ isV l [false] [v] = 0 := by simpa using h
    rw [isV_one] at this
    simp only [cond_true]
    exact ⟨fun h => (by cases h), fun h => absurd ⟨h.1, h.2.1⟩ this⟩
  | false =>
    have : isV l [false] [v] = 0 := by simpa using h
    obtain ⟨h1, h2⟩ := isV_one.1 this
    simp only [cond_false, h1, h2]
    cases h3 : decide (i < 0) <;> simp at h3 <;> simp <;> omega
/-- The parts of what may be, and is not sealed, are made. -/
theorem partV_may {l : List Term.D} {v : Value.D} {i : Int} (hl : l.length < 65536) (hc : checkV l v = 0) (ho : ownV l v = false) (h0 : 0 ≤ i) (h2 : i ≤ 2) : (partV l v i).2.2 = 0 := by
  unfold partV
  rw [partBad_false.2 ⟨hc, ho, h0, h2⟩]
  have hG := checkL_iff.1 (checkV_zero.1 hc).1
  cases hv : v.1 with
  | true =>
    obtain ⟨_, s1, s2⟩ := plain_sym hc hv
    simp only [cond_false, cond_true]
    rw [wrap64 (by omega) (by omega)]
    exact madeV_may hG (mayB_part (by omega) s1 s2) hl
  | false =>
    simp only [cond_false]
    unfold partR
    rw [decide_eq_false (by omega), decide_eq_false (by omega)]
    rfl
theorem partV_bad {l : List Term.D} {v : Value.D} {i : Int} (h : partBad l v i = true) : (partV l v i).2.2 = 1 := by unfold partV; rw [h]; rfl

theorem good5 (x : ADen K4) : Good Try.prog N5 (encA K4 x) (.one (.bool true)) := by
  have g : GoodS Try.prog N5 (.fn K4 fun _ => (true, .one (.bool true))) := by
    refine good (.cons g16 (.cons g17 (.cons g18 (.cons g19 (.cons g22 (.nil _)))))) H5 rfl (by kernel_rfl) noL [] (noLoops (by kernel_rfl)) K4 (by decide) [] _ fun x r hw h => ?_
    obtain ⟨l, a, b, i⟩ := x
    cases h
    refine (r5 l a b i).trans ?_
    cases h60 : decide ((l.length : Int) > 60) with
    | true => rfl
    | false =>
      simp at h60
      have hl : l.length < 65536 := by omega
      have k1 : kinds1 a b (wrapV l a b).2.2 (unwrapV l a b).2 = false := by
        unfold kinds1
        cases hab : a.1 == b.1 with
        | true => rfl
        | false =>
          have hne : ¬ b.1 = a.1 := fun e => by rw [e] at hab; simp at hab
          rw [wrapV_ne fun h => hne (isV_two.1 h).2.2.2.2, unwrapV_ne fun h => hne (isV_two.1 h).2.2.2.2]
          rfl
      have k2 : kinds2 (wrapV l a b).2.2 (partV l a i).2.2 (checkV l a) (partV l b 2).2.2 = false := by
        have p1 : (partV l a i).2.2 = 0 → checkV l a = 0 := by
          intro h
          cases hb : partBad l a i with
          | true => rw [partV_bad hb] at h; cases h
          | false => exact (partBad_false.1 hb).1
        have p2 : (wrapV l a b).2.2 = 0 → (partV l b 2).2.2 = 0 := fun h => by
          obtain ⟨_, c2, _, o2, _⟩ := wrapV_ok h
          exact partV_may hl c2 o2 (by omega) (by omega)
        unfold kinds2
        cases hg : (partV l a i).2.2 == 0 with
        | true =>
          rw [p1 (eq_of_beq hg)]
          cases he : (wrapV l a b).2.2 == 0 with
          | true => rw [p2 (eq_of_beq he)]; rfl
          | false => rfl
        | false =>
          cases he : (wrapV l a b).2.2 == 0 with
          | true => rw [p2 (eq_of_beq he)]; rfl
          | false => rfl
      have k3 : kinds3 (wrapV l a b).2.2 (unwrapV l a b).2 (partV l b 2).2.2 = true := by
        unfold kinds3
        have q1 : (bif (wrapV l a b).2.2 != 0 then true else (unwrapV l a b).2 == 1) = true := by
          cases he : (wrapV l a b).2.2 != 0 with
          | true => rfl
          | false =>
            obtain ⟨_, _, _, o2, _⟩ := wrapV_ok (l := l) (k := a) (v := b) (by simpa using he)
            rw [unwrapV_ne fun h => by rw [(isV_two.1 h).2.2.2.1] at o2; cases o2]
            rfl
        rw [q1]
        simp only [cond_true]
        by_cases hz : isV l [false, true] [a, b] = 0
        · have o2 := (isV_two.1 hz).2.2.2.1
          have hb : partBad l b 2 = true := by
            cases hp : partBad l b 2 with
            | true => rfl
            | false => rw [(partBad_false.1 hp).2.1] at o2; cases o2
          rw [partV_bad hb]
          cases (bif (unwrapV l a b).2 != 0 then (unwrapV l a b).2 != 7 else false) <;> rfl
        · rw [unwrapV_ne hz]; rfl
      rw [k1, k2, k3]
      rfl
  exact g.2.1 _ _ (by kernel_rfl)
end Go.AM.Seat
