/- The keys over a block walk alike when nothing else lives: the given statement, for every input that it lets in, with no further condition. -/
import Derived.Test.YtoeijiackpanoaaGreatSeWG
import Derived.Test.YtoeijiackpanoaaGreatRoWalkKeys
set_option linter.unusedVariables false
namespace Go.Proofs.YtoeijiackpanoaaGreat
theorem walkKeys_said : Rows.WalkKeysSaid := Go.AM.Seat.said_walkKeys Go.AM.Seat.good703
end Go.Proofs.YtoeijiackpanoaaGreat
