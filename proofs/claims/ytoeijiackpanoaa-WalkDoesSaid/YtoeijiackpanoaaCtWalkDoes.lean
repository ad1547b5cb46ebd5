/- Which pair leads to any subset's key, and the first one of any in which any leaf is, are as the document's answer says: the given statement, for every input that it lets in, with no further condition. -/
import Derived.Test.YtoeijiackpanoaaSeDoes15
import Derived.Test.YtoeijiackpanoaaRoWalkDoes
set_option linter.unusedVariables false
namespace Go.Proofs.Ytoeijiackpanoaa
theorem walkDoes_said : Rows.WalkDoesSaid := Go.AM.Seat.said_walkDoes Go.AM.Seat.good304
end Go.Proofs.Ytoeijiackpanoaa
