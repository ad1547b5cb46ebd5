/- Who may read opens what a centre sends with what it has: the session's key, and with that the payload; who may not finds ErrNone: the given statement, for every input that it lets in, with no further condition. -/
import Derived.Test.YthnonmlhgafalaaGreatXM35
import Derived.Test.YthnonmlhgafalaaGreatXRpCentreReads
set_option linter.unusedVariables false
namespace Go.Proofs.YthnonmlhgafalaaGreat
theorem centreReads_said:Rows.CentreReadsSaid:=Go.AM.Seat.said_centreReads Go.AM.Seat.good811
end Go.Proofs.YthnonmlhgafalaaGreat
