/- What is known is the least shut set that has what one has: the given statement, for every input that it lets in, with no further condition. -/
import Derived.Test.YtnkdeglckmogcaaSeKLe
import Derived.Test.YtnkdeglckmogcaaRoKnowLeast
set_option linter.unusedVariables false
namespace Go.Proofs.Ytnkdeglckmogcaa
theorem knowLeast_said : Rows.KnowLeastSaid := Go.AM.Seat.said_knowLeast Go.AM.Seat.good8
end Go.Proofs.Ytnkdeglckmogcaa
