/- By each scheme, of octets as of terms: out of what was made for a leaf comes just the key of each subset in which it is, and of no other one: the given statement, for every input that it lets in, with no further condition. -/
import Derived.Test.YtoeijiackpanoaaPlRight
import Derived.Test.YtoeijiackpanoaaRoWalkRight
set_option linter.unusedVariables false
namespace Go.Proofs.Ytoeijiackpanoaa
theorem walkRight_said : Rows.WalkRightSaid := Go.AM.Seat.said_walkRight Go.AM.Seat.good306
end Go.Proofs.Ytoeijiackpanoaa
