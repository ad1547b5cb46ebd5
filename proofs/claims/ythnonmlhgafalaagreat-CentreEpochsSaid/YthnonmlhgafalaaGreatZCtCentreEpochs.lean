/- Whatever is revoked, reinstated, and sent: each epoch is one more, and draws one more; by terms each has a key of its own; what is refused changes nothing; a header has just the cover of who may not read then: the given statement, for every input that it lets in, with no further condition. -/
import Derived.Test.YthnonmlhgafalaaGreatZM40
import Derived.Test.YthnonmlhgafalaaGreatZRpCentreEpochs
set_option linter.unusedVariables false
namespace Go.Proofs.YthnonmlhgafalaaGreat
theorem centreEpochs_said:Rows.CentreEpochsSaid:=Go.AM.Seat.said_centreEpochs Go.AM.Seat.good809
end Go.Proofs.YthnonmlhgafalaaGreat
