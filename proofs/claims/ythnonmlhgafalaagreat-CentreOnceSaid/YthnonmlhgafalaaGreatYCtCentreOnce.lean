/- What a leaf has is the same, whenever it is made: ahead of a revocation and of a sending, and behind them; of terms those ahead stay: the given statement, for every input that it lets in, with no further condition. -/
import Derived.Test.YthnonmlhgafalaaGreatYM37
import Derived.Test.YthnonmlhgafalaaGreatYRpCentreOnce
set_option linter.unusedVariables false
namespace Go.Proofs.YthnonmlhgafalaaGreat
theorem centreOnce_said:Rows.CentreOnceSaid:=Go.AM.Seat.said_centreOnce Go.AM.Seat.good810
end Go.Proofs.YthnonmlhgafalaaGreat
