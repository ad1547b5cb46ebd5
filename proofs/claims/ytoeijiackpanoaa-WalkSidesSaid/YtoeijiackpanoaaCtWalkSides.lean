/- The pair that leads to a subset's key is of the same I, its J is above the subset's, and the sides lead there; of no J it is the subset itself: the given statement, for every input that it lets in, with no further condition. -/
import Derived.Test.YtoeijiackpanoaaPlSides
import Derived.Test.YtoeijiackpanoaaRoWalkSides
set_option linter.unusedVariables false
namespace Go.Proofs.Ytoeijiackpanoaa
theorem walkSides_said : Rows.WalkSidesSaid := Go.AM.Seat.said_walkSides Go.AM.Seat.good303
end Go.Proofs.Ytoeijiackpanoaa
