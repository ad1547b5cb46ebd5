/- What is wrapped is taken out with the same key, of octets as of terms; with another term it is not: the given statement, for every input that it lets in, with no further condition. -/
import Derived.Test.YtnkdeglckmogcaaPlValue
import Derived.Test.YtnkdeglckmogcaaSeRow
set_option linter.unusedVariables false
namespace Go.Proofs.Ytnkdeglckmogcaa
theorem valueBack_said : Rows.ValueBackSaid := Go.AM.Seat.said3 Go.AM.Seat.good3
end Go.Proofs.Ytnkdeglckmogcaa
