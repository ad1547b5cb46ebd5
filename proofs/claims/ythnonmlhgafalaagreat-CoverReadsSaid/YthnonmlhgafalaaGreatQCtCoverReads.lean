import Derived.Test.YthnonmlhgafalaaGreatQM33
import Derived.Test.YthnonmlhgafalaaGreatQRoCoverReads
set_option linter.unusedVariables false
namespace Go.Proofs.YthnonmlhgafalaaGreat
theorem coverReads_said : Rows.CoverReadsSaid := Go.AM.Seat.said_coverReads Go.AM.Seat.good807
end Go.Proofs.YthnonmlhgafalaaGreat
