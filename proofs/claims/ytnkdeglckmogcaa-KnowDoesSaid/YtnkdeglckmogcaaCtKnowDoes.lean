/- All that is known of what one has, whether any set is shut, and whether any steps are a chain, is what the definition says: the given statement, for every input that it lets in, with no further condition. -/
import Derived.Test.YtnkdeglckmogcaaSeKZ
import Derived.Test.YtnkdeglckmogcaaRoKnowDoes
set_option linter.unusedVariables false
namespace Go.Proofs.Ytnkdeglckmogcaa
theorem knowDoes_said : Rows.KnowDoesSaid := Go.AM.Seat.said_knowDoes Go.AM.Seat.good11
end Go.Proofs.Ytnkdeglckmogcaa
