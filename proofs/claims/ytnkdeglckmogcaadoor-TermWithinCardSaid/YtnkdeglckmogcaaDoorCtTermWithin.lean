/- What is within a term, in ascending order, and how deep a term is: the given card, for every input that the law lets in, with no further condition. -/
import Derived.Test.YtnkdeglckmogcaaDoorPlTW
import Derived.Test.YtnkdeglckmogcaaDoorRoTermWithin
set_option linter.unusedVariables false
namespace Go.Proofs.YtnkdeglckmogcaaDoor
theorem termWithin_said : Rows.TermWithinCardSaid := Go.AM.Seat.card_termWithin Go.AM.Seat.good507
end Go.Proofs.YtnkdeglckmogcaaDoor
