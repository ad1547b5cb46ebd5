/- More that one has makes no less known; in whatever order one has it, it is the same; who has nothing knows nothing: the given statement, for every input that it lets in, with no further condition. -/
import Derived.Test.YtnkdeglckmogcaaSeKMo
import Derived.Test.YtnkdeglckmogcaaRoKnowMore
set_option linter.unusedVariables false
namespace Go.Proofs.Ytnkdeglckmogcaa
theorem knowMore_said : Rows.KnowMoreSaid := Go.AM.Seat.said_knowMore Go.AM.Seat.good6
end Go.Proofs.Ytnkdeglckmogcaa
