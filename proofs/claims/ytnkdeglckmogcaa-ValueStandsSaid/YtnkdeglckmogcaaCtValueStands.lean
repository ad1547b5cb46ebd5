/- Whatever is done with terms, done with the blocks for which they stand, comes to that for which what comes of it stands: the given statement, for every input that it lets in, with no further condition. -/
import Derived.Test.YtnkdeglckmogcaaPlVS
import Derived.Test.YtnkdeglckmogcaaRoValueStands
set_option linter.unusedVariables false
namespace Go.Proofs.Ytnkdeglckmogcaa
theorem valueStands_said : Rows.ValueStandsSaid := Go.AM.Seat.said_valueStands Go.AM.Seat.good14v
end Go.Proofs.Ytnkdeglckmogcaa
