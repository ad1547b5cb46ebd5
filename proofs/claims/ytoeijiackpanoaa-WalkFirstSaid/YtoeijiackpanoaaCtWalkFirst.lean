/- The first subset in which a leaf is is in none ahead of it; with more behind it is the same: the given statement, for every input that it lets in, with no further condition. -/
import Derived.Test.YtoeijiackpanoaaPlFirst
import Derived.Test.YtoeijiackpanoaaRoWalkFirst
set_option linter.unusedVariables false
namespace Go.Proofs.Ytoeijiackpanoaa
theorem walkFirst_said : Rows.WalkFirstSaid := Go.AM.Seat.said_walkFirst Go.AM.Seat.good305
end Go.Proofs.Ytoeijiackpanoaa
