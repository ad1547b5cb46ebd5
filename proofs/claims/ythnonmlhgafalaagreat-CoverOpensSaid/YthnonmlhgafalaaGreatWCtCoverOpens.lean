/- What any leaf takes out of any parts, with whatever it has, is what the document says, or the error is: the given statement, for every input that it lets in, with no further condition. -/
import Derived.Test.YthnonmlhgafalaaGreatWSeCk7
import Derived.Test.YthnonmlhgafalaaGreatWRpCoverOpens
set_option linter.unusedVariables false
namespace Go.Proofs.YthnonmlhgafalaaGreat
theorem coverOpens_said:Rows.CoverOpensSaid:=Go.AM.Seat.said_coverOpens Go.AM.Seat.good806
end Go.Proofs.YthnonmlhgafalaaGreat
