/- What a centre sends does not hang on what was given to whom; by octets a centre that gave, and one that did not, send the same: the given statement, for every input that it lets in, with no further condition. -/
import Derived.Test.YthnonmlhgafalaaGreatXM40
import Derived.Test.YthnonmlhgafalaaGreatXRpCentreApart
set_option linter.unusedVariables false
namespace Go.Proofs.YthnonmlhgafalaaGreat
theorem centreApart_said:Rows.CentreApartSaid:=Go.AM.Seat.said_centreApart Go.AM.Seat.good804
end Go.Proofs.YthnonmlhgafalaaGreat
