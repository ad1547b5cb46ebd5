/- The law WalkKeys: it answers true. -/
import Derived.Test.YtoeijiackpanoaaGreatSeWJ
set_option linter.unusedVariables false
set_option linter.unusedSimpArgs false
set_option maxRecDepth 100000
namespace Go.AM.Seat
open Go Go.AM Go.Proofs

theorem makeL_bd (l : List Term.D) (t : Term.D) : (makeL l t).2.1.length ≤ max l.length 65537 := by
  simp only [makeL]
  cases h0 : (findL l t).2 == 0 with
  | true => simp only [cond_true]; omega
  | false =>
    cases h4 : (findL l t).2 != 4 with
    | true => simp
    | false =>
      have hl := ixL_len (findL_ok (.inr (by simpa using h4)))
      cases (l.length : Int) == 65536 with
      | true => simp
      | false => simp; omega
theorem madeV_bd (l : List Term.D) (t : Term.D) : (madeV l t).2.1.length ≤ max l.length 65537 := by
  unfold madeV
  cases (makeL l t).2.2 != 0 with
  | true => simp
  | false => exact makeL_bd l t
theorem partV_bd (l : List Term.D) (v : Value.D) (i : Int) : (partV l v i).2.1.length ≤ max l.length 65537 := by
  unfold partV
  cases partBad l v i with
  | true => simp
  | false =>
    cases v.1 with
    | true => exact madeV_bd l _
    | false => simp; omega
theorem stepW_bd (x : WS) (i : Int) : (stepW x i).2.1.length ≤ max x.2.1.length 65537 := by
  unfold stepW
  cases x.2.2 == 0 with
  | true => exact partV_bd _ _ _
  | false => simp only [cond_false]; omega
theorem walkL_bd : ∀ (sd : List Int) (x : WS), (walkL x sd).2.1.length ≤ max x.2.1.length 65537 := by
  intro sd
  induction sd with
  | nil => intro x; simp only [walkL]; omega
  | cons i sd ih =>
    intro x
    have h1 := ih (stepW x i)
    have h2 := stepW_bd x i
    simp only [walkL]; omega
theorem endW_bd (x : WS) : (endW x).2.1.length ≤ x.2.1.length := by
  unfold endW
  cases x.2.2 != 0 <;> simp
theorem walkV_bd (l : List Term.D) (v : Value.D) (sd : List Int) : (walkV l v sd).2.1.length ≤ max l.length 65537 := by
  unfold walkV
  cases noWalk l v sd with
  | true => simp
  | false =>
    have h1 := walkL_bd sd (startW l v)
    have h4 := endW_bd (walkL (startW l v) sd)
    have h5 : (startW l v).2.1.length = l.length := rfl
    simp only [cond_false]; omega
theorem keyR_bd (l : List Term.D) (h k i : Int) (es : List Entry.D) (s : Subset.D) : (keyR l h k i es s).2.1.length ≤ max l.length 65537 := by
  unfold keyR
  cases checkS l h k i es != 0 with
  | true => simp
  | false =>
  cases (entryI h k i s).2.2 != 0 with
  | true => simp
  | false =>
    have h1 : (keyT l h k i es s).2.1.length ≤ max l.length 65537 := walkV_bd _ _ _
    have h2 := partV_bd (keyT l h k i es s).2.1 (keyT l h k i es s).1 2
    cases (bif (keyT l h k i es s).2.2 != 0 then true else s.2 == 0) with
    | true => simpa using h1
    | false => simp only [cond_false]; omega
theorem r703 (l : List Term.D) (h k i : Int) (es : List Entry.D) (s : Subset.D) : runG Γ703 Λ703 1 [(0, live703)] F703 (encA K6 (l, h, k, i, es, s)) [] =
    bif bif decide ((l.length : Int) > 200) then true else decide ((es.length : Int) > 600) then oB true else
    bif small24 l.length then bif small24 l.length then bif decide (l.length ≤ 65000) then
      bif decide (((keyR l h k i es s).2.1.length : Int) = (keyR l h k i es s).2.1.length) && decide (((keyR l h k i es s).2.1.length : Int) ≤ 9223372036854775807) then
        oB (bif bif bif valEq (keyR l h k i es s).1 (keyR l h k i es s).1 then sameL (keyR l h k i es s).2.1 (keyR l h k i es s).2.1 else false then (keyR l h k i es s).2.2 == (keyR l h k i es s).2.2 else false then sameL l l else false)
      else none else none else none else none := by kernel_rfl
theorem good703 (x : ADen K6) : Good Tryz.prog N703 (encA K6 x) (.one (.bool true)) := by
  have g : GoodS Tryz.prog N703 (.fn K6 fun _ => (true, .one (.bool true))) := by
    refine goodG Γ703ok H703 rfl (by kernel_rfl) Λ703 1 [(0, live703)] (oneLoop (p0 := loop1 F703) (by kernel_rfl) loop703) K6 (by decide) [] _ (fun x r hw e => ?_) (fun x hx => by cases hx; decide)
    obtain ⟨l, h, k, i, es, s⟩ := x
    cases e
    refine (r703 l h k i es s).trans ?_
    cases h1 : (bif decide ((l.length : Int) > 200) then true else decide ((es.length : Int) > 600)) with
    | true => rfl
    | false =>
      have hl : l.length ≤ 200 := by
        cases h2 : decide ((l.length : Int) > 200) with
        | true => rw [h2] at h1; cases h1
        | false => simp at h2; omega
      have hb := keyR_bd l h k i es s
      rw [show small24 l.length = true from decide_eq_true (by omega), show decide (l.length ≤ 65000) = true from decide_eq_true (by omega), show (decide (((keyR l h k i es s).2.1.length : Int) = (keyR l h k i es s).2.1.length) && decide (((keyR l h k i es s).2.1.length : Int) ≤ 9223372036854775807)) = true from lenMax (by omega)]
      have hs : ∀ l : List Term.D, sameL l l = true := fun l => decide_eq_true rfl
      simp only [cond_true, cond_false, beq_self_eq_true, hs, valEq_iff.2]; rfl
  exact g.2.1 _ _ (by kernel_rfl)
end Go.AM.Seat
