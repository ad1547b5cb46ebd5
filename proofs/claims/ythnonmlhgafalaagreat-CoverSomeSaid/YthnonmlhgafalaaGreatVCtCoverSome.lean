import Derived.Test.YthnonmlhgafalaaGreatVM33
import Derived.Test.YthnonmlhgafalaaGreatVRoCoverSome
set_option linter.unusedVariables false
namespace Go.Proofs.YthnonmlhgafalaaGreat
theorem coverSome_said : Rows.CoverSomeSaid := Go.AM.Seat.said_coverSome Go.AM.Seat.good808
end Go.Proofs.YthnonmlhgafalaaGreat
