/- The law WalkDoes: contracts of the definition's entry and first one; the law's run. -/
import Derived.Test.YtoeijiackpanoaaPlWalk
set_option linter.unusedVariables false
set_option maxRecDepth 100000
namespace Go.AM.Seat
open Go Go.AM Go.Proofs

theorem outG_len (h k leaf : Int) : ∀ (m t : Nat) (out : List (Int × Int)), (outG h k leaf m t out).length ≤ out.length + m * h.toNat := by
  intro m
  induction m with
  | zero => intro t out; simp [outG]
  | succ m ih =>
    intro t out
    refine Nat.le_trans (ih _ _) ?_
    have := inG_len h k leaf t (h.toNat - t) (t + 1) out
    rw [Nat.succ_mul]
    omega
theorem wG_len (h leaf : Int) : ∀ (m j : Nat) (out : List (Int × Int)), (wG h leaf m j out).length = out.length + m := by
  intro m
  induction m with
  | zero => intro j out; rfl
  | succ m ih => intro j out; rw [wG, ih]; simp; omega
theorem pairs_len (h k i : Int) : (pairsL h k i).1.length ≤ 9223372036854775807 := by
  unfold pairsL
  cases hn : noPr h k i with
  | true => exact Nat.zero_le _
  | false =>
    obtain ⟨h1, h2, _⟩ := many_ok (noPr_ok hn).1
    cases k == 1 with
    | true =>
      show (wG h (leafI h i).1 (h.toNat + 1) 0 []).length ≤ _
      rw [wG_len]
      have : h.toNat ≤ 32 := by omega
      simp; omega
    | false =>
      refine Nat.le_trans (outG_len _ _ _ _ _ _) ?_
      have : h.toNat * h.toNat ≤ 32 * 32 := Nat.mul_le_mul (by omega) (by omega)
      simp; omega
theorem g314 : GoodS Try.prog N314 s309 := by
  refine good (.cons g334 (.cons g335 (.cons g336 (.cons g337 (.cons g338 (.nil _)))))) H314 rfl (by kernel_rfl) Λ314 [(0, live314)] (oneLoop (p0 := loopK F314 0) (by kernel_rfl) loop314) [.v I, .v I, .v U, .v Subset] (by decide) [.id, .sl true I, .id] _ fun x r hw e => ?_
  obtain ⟨h, k, i, s⟩ := x
  cases e
  exact (r314 h k i s).trans (entry_ref hw.2.2.2.1 hw.2.2.2.2 hw.2.2.1 (pairs_len h k i))
theorem g316 : GoodS Try.prog N316 s315 := by
  refine good (.cons g344 (.cons g345 (.cons g336 (.nil _)))) H316 rfl (by kernel_rfl) Λ316 live316 (twoLoops (p0 := loopK F316 0) (p1 := loopK F316 1) (by kernel_rfl) loop316a loop316b) [.v I, .v U, .v (.sl Subset)] (by decide) [] _ fun x r hw e => ?_
  obtain ⟨h, i, l⟩ := x
  cases e
  exact (r316 h i l).trans (first_ref hw.2.2.1)
def Γ304 : Orc := orc [(N308, s308), (N309, s309), (N314, s309), (N315, s315), (N316, s315), (N31, s31)]
theorem Γ304ok : OrcOk Try.prog Γ304 := .cons g308 (.cons g309 (.cons g314 (.cons g315 (.cons g316 (.cons g31 (.nil _))))))
def conj15 (x : Int × List Int × Int) (y : Int × Int) : Bool := bif bif bif bif x.1 == x.1 then sameI x.2.1 x.2.1 else false then x.2.2 == x.2.2 else false then y.1 == y.1 else false then y.2 == y.2 else false
theorem r304 (h k i : Int) (s : Subset.D) (l : List Subset.D) : run Γ304 noL [] F304 (encA [.v I, .v I, .v U, .v Subset, .v (.sl Subset)] (h, k, i, s, l)) [] =
    bif decide ((l.length : Int) > 60) then oB true else oB (conj15 (entryI h k i s) (firstI h i l)) := by kernel_rfl
theorem conj15_true (x : Int × List Int × Int) (y : Int × Int) : conj15 x y = true := by
  unfold conj15
  rw [show sameI x.2.1 x.2.1 = true from decide_eq_true rfl]
  simp
theorem good304 (x : ADen [.v I, .v I, .v U, .v Subset, .v (.sl Subset)]) : Good Try.prog N304 (encA [.v I, .v I, .v U, .v Subset, .v (.sl Subset)] x) (.one (.bool true)) := by
  have g : GoodS Try.prog N304 (.fn [.v I, .v I, .v U, .v Subset, .v (.sl Subset)] fun _ => (true, .one (.bool true))) := by
    refine good Γ304ok H304 rfl (by kernel_rfl) noL [] (noLoops (by kernel_rfl)) [.v I, .v I, .v U, .v Subset, .v (.sl Subset)] (by decide) [] _ fun x r hw e => ?_
    obtain ⟨h, k, i, s, l⟩ := x
    cases e
    refine (r304 h k i s l).trans ?_
    rw [conj15_true]
    cases decide ((l.length : Int) > 60) <;> rfl
  exact g.2.1 _ _ (by kernel_rfl)
end Go.AM.Seat
