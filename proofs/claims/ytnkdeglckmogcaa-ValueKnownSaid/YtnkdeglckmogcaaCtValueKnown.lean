/- Who knows two terms knows what is made of them, as soon as it is made; who knows what is wrapped, and the key, knows what is taken out: the given statement, for every input that it lets in, with no further condition. -/
import Derived.Test.YtnkdeglckmogcaaSeVK
import Derived.Test.YtnkdeglckmogcaaRoValueKnown
set_option linter.unusedVariables false
namespace Go.Proofs.Ytnkdeglckmogcaa
theorem valueKnown_said : Rows.ValueKnownSaid := Go.AM.Seat.said_valueKnown Go.AM.Seat.good15
end Go.Proofs.Ytnkdeglckmogcaa
