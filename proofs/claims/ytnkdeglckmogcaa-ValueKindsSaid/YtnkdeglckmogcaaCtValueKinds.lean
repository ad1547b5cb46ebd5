/- A value by octets, and one by terms, are never taken together; what is sealed has no parts, and wraps nothing; what is not, is not taken out of: the given statement, for every input that it lets in, with no further condition. -/
import Derived.Test.YtnkdeglckmogcaaPlKinds
import Derived.Test.YtnkdeglckmogcaaRoValueKinds
set_option linter.unusedVariables false
namespace Go.Proofs.Ytnkdeglckmogcaa
theorem valueKinds_said : Rows.ValueKindsSaid := Go.AM.Seat.said_valueKinds Go.AM.Seat.good5
end Go.Proofs.Ytnkdeglckmogcaa
