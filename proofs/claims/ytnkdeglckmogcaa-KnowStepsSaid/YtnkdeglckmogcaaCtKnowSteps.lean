/- A chain's beginnings are chains; of one that has one more, that one is known, too: the given statement, for every input that it lets in, with no further condition. -/
import Derived.Test.YtnkdeglckmogcaaSeKV
import Derived.Test.YtnkdeglckmogcaaRoKnowSteps
set_option linter.unusedVariables false
namespace Go.Proofs.Ytnkdeglckmogcaa
theorem knowSteps_said : Rows.KnowStepsSaid := Go.AM.Seat.said_knowSteps Go.AM.Seat.good9
end Go.Proofs.Ytnkdeglckmogcaa
