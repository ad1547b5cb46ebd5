/- The seat: contracts: sub.Split. -/
import Derived.Test.YtkalaofppiifcaaPlCov7
set_option linter.unusedVariables false
set_option linter.unusedSimpArgs false
set_option maxRecDepth 100000
namespace Go.AM.Seat
open Go Go.AM Go.Proofs
def Γ358 : Orc := orc [(N327, s327), (N365, s365'), (N363, s363)]
def splE (h : Int) (s : Subset.D) : Int := bif (stepI h).2 != 0 then (stepI h).2 else depE h s
def splN (h : Int) (s : Subset.D) : Int := bif (stepI h).2 != 0 then 0 else nxI (depthI h s.1).1 (stepI h).1 h
theorem r358 (h : Int) (s : Subset.D) : run Γ358 noL [] F358 [.one (.int .i64 h), encV Subset s] [.sl true Subset, .id] =
    bif (useI h s).2 != 0 then some (rls2 [] (useI h s).2) else bif (bif (useI h s).1 then true else s.2 == 0) then some (rls2 [s] 0) else
    bif splE h s != 0 then some (rls2 [] (splE h s)) else some (rls2 [(s.1, (upI h s.2 (splN h s)).1), ((upI h s.2 (splN h s)).1, s.2)] (upI h s.2 (splN h s)).2) := by kernel_rfl
def s358 : Sp := .fn [.v I, .v Subset] fun x => (true, rls2 (splitI x.1 x.2).1 (splitI x.1 x.2).2)
theorem g358 : GoodS Try.prog N358 s358 := by
  refine good (OrcOk.cons g327 (.cons (s365_eq ▸ g365) (.cons g363 (.nil _)))) H358 rfl (by kernel_rfl) noL [] (noLoops (by kernel_rfl)) [.v I, .v Subset] (by decide) [.sl true Subset, .id] _ fun x r hw e => ?_
  obtain ⟨h, s⟩ := x
  cases e
  refine (r358 h s).trans ?_
  show _ = some (rls2 (splitI h s).1 (splitI h s).2)
  unfold splitI
  cases h1 : (useI h s).2 != 0 with
  | true => rfl
  | false =>
    cases h2 : (bif (useI h s).1 then true else s.2 == 0) with
    | true => rfl
    | false =>
      have h3 : (s.2 == 0) = false := by
        cases h4 : (useI h s).1 with
        | true => rw [h4] at h2; cases h2
        | false => rw [h4] at h2; exact h2
      have h5 : (useI h s).2 = splE h s := by
        unfold useI at h1 ⊢
        cases h6 : subE h s != 0 with
        | true => rw [h6] at h1; simp only [cond_true] at h1; rw [h6] at h1; cases h1
        | false => rw [h3]; rfl
      rw [h5] at h1
      have h7 : ((stepI h).2 != 0) = false := by
        unfold splE at h1
        cases h8 : (stepI h).2 != 0 with
        | true => rw [h8] at h1; simp only [cond_true] at h1; rw [h8] at h1; cases h1
        | false => rfl
      rw [h1]
      unfold splN
      rw [h7]; rfl
end Go.AM.Seat
