/- What values do is what the definition says: the given statement, for every input that it lets in, with no further condition. -/
import Derived.Test.YtnkdeglckmogcaaPlDoes
import Derived.Test.YtnkdeglckmogcaaRoValueDoes
set_option linter.unusedVariables false
namespace Go.Proofs.Ytnkdeglckmogcaa
theorem valueDoes_said : Rows.ValueDoesSaid := Go.AM.Seat.said_valueDoes Go.AM.Seat.good4
end Go.Proofs.Ytnkdeglckmogcaa
