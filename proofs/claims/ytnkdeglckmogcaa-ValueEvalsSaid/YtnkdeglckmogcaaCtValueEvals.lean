/- What comes of any term is what the document tells: the given statement, for every input that it lets in, with no further condition. -/
import Derived.Test.YtnkdeglckmogcaaPlEF
import Derived.Test.YtnkdeglckmogcaaRoValueEvals
set_option linter.unusedVariables false
namespace Go.Proofs.Ytnkdeglckmogcaa
theorem valueEvals_said : Rows.ValueEvalsSaid := Go.AM.Seat.said_valueEvals Go.AM.Seat.good13v
end Go.Proofs.Ytnkdeglckmogcaa
