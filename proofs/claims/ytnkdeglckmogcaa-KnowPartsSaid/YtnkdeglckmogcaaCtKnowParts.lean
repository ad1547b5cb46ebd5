/- Nobody knows an atom that is in nothing that he has: the given statement, for every input that it lets in, with no further condition. -/
import Derived.Test.YtnkdeglckmogcaaSeKPa
import Derived.Test.YtnkdeglckmogcaaRoKnowParts
set_option linter.unusedVariables false
namespace Go.Proofs.Ytnkdeglckmogcaa
theorem knowParts_said : Rows.KnowPartsSaid := Go.AM.Seat.said_knowParts Go.AM.Seat.good10f
end Go.Proofs.Ytnkdeglckmogcaa
