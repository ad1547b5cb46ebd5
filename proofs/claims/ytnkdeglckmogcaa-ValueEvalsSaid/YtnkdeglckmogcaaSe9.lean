/- The seat: contracts: terms by definition, beside values. -/
import Derived.Test.YtnkdeglckmogcaaSeT9
import Derived.Test.YtnkdeglckmogcaaSe8
set_option linter.unusedVariables false
set_option maxRecDepth 100000
namespace Go.AM.Seat
open Go Go.AM Go.Proofs

end Go.AM.Seat
