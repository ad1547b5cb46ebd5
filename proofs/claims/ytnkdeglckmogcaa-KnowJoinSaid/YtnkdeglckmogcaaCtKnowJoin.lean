/- What two know together is at least what each knows; who knows all that another one has knows all that that one knows: the given statement, for every input that it lets in, with no further condition. -/
import Derived.Test.YtnkdeglckmogcaaSeKJo
import Derived.Test.YtnkdeglckmogcaaRoKnowJoin
set_option linter.unusedVariables false
namespace Go.Proofs.Ytnkdeglckmogcaa
theorem knowJoin_said : Rows.KnowJoinSaid := Go.AM.Seat.said_knowJoin Go.AM.Seat.good7
end Go.Proofs.Ytnkdeglckmogcaa
