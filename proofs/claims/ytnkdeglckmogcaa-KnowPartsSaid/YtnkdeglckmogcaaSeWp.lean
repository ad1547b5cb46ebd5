/- The seat: contracts: the definition's parts of a term. -/
import Derived.Test.YtnkdeglckmogcaaPlWi
set_option linter.unusedVariables false
set_option linter.unusedSimpArgs false
set_option maxRecDepth 100000
namespace Go.AM.Seat
open Go Go.AM Go.Proofs

theorem r36p (t : Term.D) : run (orc []) noL [] F36 (encA [.v Term] t) [.sl true I] =
    bif t.1 == 2 then some (.one (.sl true I none [t.2.1])) else bif t.1 == 3 then some (.one (.sl true I none [t.2.1])) else bif t.1 == 4 then some (.one (.sl true I none [t.2.1])) else
    bif t.1 == 5 then some (.one (.sl true I none [t.2.1, t.2.2])) else some (.one (.sl true I none [])) := by kernel_rfl
theorem g36p : GoodS Try.prog N36 s74 := by
  refine good (OrcOk.nil _) H36 rfl (by kernel_rfl) noL [] (noLoops (by kernel_rfl)) [.v Term] (by decide) [.sl true I] _ fun t r _ h => ?_
  cases h
  refine (r36p t).trans ?_
  unfold partsL
  cases t.1 == 2 <;> cases t.1 == 3 <;> cases t.1 == 4 <;> cases t.1 == 5 <;> rfl
end Go.AM.Seat
